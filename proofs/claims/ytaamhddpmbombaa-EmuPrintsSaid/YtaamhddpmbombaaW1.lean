/- Part 1 of the claim EmuPrints: A1, A2, A3, A4, A5, A6, A7, A8 -/
import Derived.Below
import Derived.Tactics
import Derived.Orders
import Derived.Laws.AppendOwn
import Derived.Laws.Rows
import Derived.ChangeKeysEq
import Derived.Laws.Tables
import Derived.Laws.Slices
import Derived.Laws.StructEq
import Derived.Laws.Pointers
import Derived.Laws.Unary
import Derived.WalkSpells
import Derived.Laws.MakeOwn
import Derived.Lib.ConvBytes
set_option linter.unusedSimpArgs false
set_option linter.unusedVariables false
set_option linter.defProp false
noncomputable section
namespace Go.Sim
open Go.RowKit
def unk : Nat := 9223372036854775808
def dud : Nat := 9223372036854775809
def qG : Nat := 9223372036854775810
structure Sh where
 off : Nat
 T : Nat
 z : Nat
abbrev Place := Nat → Option (Nat × Sh)
def Fn.plain : Fn → Bool
 | .yield _ => false
 | _ => true
inductive VRel (β : Place) : Value → Value → Prop
 | bool (b : Bool) : VRel β (.bool b) (.bool b)
 | int (k : IntKind) (n : Int) : VRel β (.int k n) (.int k n)
 | string (s : ByteArray) : VRel β (.string s) (.string s)
 | nilptr : VRel β (.pointer none) (.pointer none)
 | ptr {b o m : Nat} {s : Sh} (h : β b = some (m, s)) : VRel β (.pointer (some ⟨b, o, none⟩)) (.pointer (some ⟨m, s.off + o, none⟩))
 | nilslice : VRel β (.slice none 0 0) (.slice none 0 0)
 | slice {b o m n c c' : Nat} {s : Sh} (h : β b = some (m, s)) (hc : c = unk ∨ c = qG ∨ c = c') (hn : n ≤ c') (hm : c' ≤ maxLen) (hr : c = qG ∨ c' = 0 ∨ s.off + o + c' * s.z ≤ s.T) :
   VRel β (.slice (some ⟨b, o, none⟩) n c) (.slice (some ⟨m, s.off + o, none⟩) n c')
 | dud {a a' : Addr} {c' : Nat} : VRel β (.slice (some a) 0 Sim.dud) (.slice (some a') 0 c')
 | zero {a a' : Addr} : VRel β (.slice (some a) 0 0) (.slice (some a') 0 0)
 | exact {u : Value} {a : Option Addr} {n : Nat} (h : VRel β u (.slice a n n)) : VRel β (.func (.yield 0) #[u, .nilFunc] #[]) (.slice a n n)
 | nilmap : VRel β (.map none) (.map none)
 | map {r m : Nat} {s : Sh} (h : β r = some (m, s)) : VRel β (.map (some r)) (.map (some m))
 | nilchan : VRel β (.chan none) (.chan none)
 | chan {r m : Nat} {s : Sh} (h : β r = some (m, s)) : VRel β (.chan (some r)) (.chan (some m))
 | nilfunc : VRel β .nilFunc .nilFunc
 | func {f : Fn} {xs ys xs' ys' : Array Value} (hf : Fn.plain f = true) (hx : xs.size = xs'.size) (hy : ys.size = ys'.size)
   (h : ∀ (i : Nat) (v v' : Value), xs[i]? = some v → xs'[i]? = some v' → VRel β v v')
   (h' : ∀ (i : Nat) (v v' : Value), ys[i]? = some v → ys'[i]? = some v' → VRel β v v') : VRel β (.func f xs ys) (.func f xs' ys')
 | yield {l m : Nat} {s : Sh} (h : β l = some (m, s)) : VRel β (.func (.yield l) #[] #[]) (.func (.yield m) #[] #[])
 | least {n : Nat} {k : Int} (h : (n : Int) ≤ k) : VRel β (.func (.yield n) #[.nilFunc] #[]) (.int .i64 k)
 | niliface : VRel β .nilIface .nilIface
 | iface {t : TypeId} {v v' : Value} (h : VRel β v v') : VRel β (.iface t v) (.iface t v')
 | agg {xs xs' : Array Value} (hx : xs.size = xs'.size)
   (h : ∀ (i : Nat) (v v' : Value), xs[i]? = some v → xs'[i]? = some v' → VRel β v v') : VRel β (.agg xs) (.agg xs')
 | tuple {xs xs' : Array Value} (hx : xs.size = xs'.size)
   (h : ∀ (i : Nat) (v v' : Value), xs[i]? = some v → xs'[i]? = some v' → VRel β v v') : VRel β (.tuple xs) (.tuple xs')
theorem VRel.mono {β β' : Place} (hβ : ∀ b x, β b = some x → β' b = some x) {v v' : Value} (h : VRel β v v') : VRel β' v v' := by
 induction h with
 | bool b => exact .bool b
 | int k n => exact .int k n
 | string s => exact .string s
 | nilptr => exact .nilptr
 | ptr h => exact .ptr (hβ _ _ h)
 | nilslice => exact .nilslice
 | slice h hc hn hm hr => exact .slice (hβ _ _ h) hc hn hm hr
 | dud => exact .dud
 | zero => exact .zero
 | exact _ ih => exact .exact ih
 | nilmap => exact .nilmap
 | map h => exact .map (hβ _ _ h)
 | nilchan => exact .nilchan
 | chan h => exact .chan (hβ _ _ h)
 | nilfunc => exact .nilfunc
 | func hf hx hy _ _ ih ih' => exact .func hf hx hy ih ih'
 | yield h => exact .yield (hβ _ _ h)
 | least h => exact .least h
 | niliface => exact .niliface
 | iface _ ih => exact .iface ih
 | agg hx _ ih => exact .agg hx ih
 | tuple hx _ ih => exact .tuple hx ih
def xX (u : Value) : Value := .func (.yield 0) #[u, .nilFunc] #[]
inductive VRels (β : Place) : List Value → List Value → Prop
 | nil : VRels β [] []
 | cons {v v' : Value} {l l' : List Value} (h : VRel β v v') (t : VRels β l l') : VRels β (v :: l) (v' :: l')
theorem VRels.mono {β β' : Place} (hβ : ∀ b x, β b = some x → β' b = some x) {l l' : List Value} (h : VRels β l l') : VRels β' l l' := by
 induction h with
 | nil => exact .nil
 | cons h _ ih => exact .cons (h.mono hβ) ih
theorem VRels.length {β : Place} {l l' : List Value} (h : VRels β l l') : l.length = l'.length := by
 induction h with
 | nil => rfl
 | cons _ _ ih => simp [ih]
theorem VRels.append {β : Place} {l l' m m' : List Value} (h : VRels β l l') (k : VRels β m m') : VRels β (l ++ m) (l' ++ m') := by
 induction h with
 | nil => exact k
 | cons h _ ih => exact .cons h ih
theorem VRels.get {β : Place} {l l' : List Value} (h : VRels β l l') : ∀ {i : Nat} {v : Value}, l[i]? = some v → ∃ v', l'[i]? = some v' ∧ VRel β v v' := by
 induction h with
 | nil => intro i v e; simp at e
 | cons h _ ih =>
  intro i v e
  cases i with
  | zero => simp at e; subst e; exact ⟨_, rfl, h⟩
  | succ i => simp at e; simpa using ih e
theorem VRels.get' {β : Place} {l l' : List Value} (h : VRels β l l') : ∀ {i : Nat} {v' : Value}, l'[i]? = some v' → ∃ v, l[i]? = some v ∧ VRel β v v' := by
 induction h with
 | nil => intro i v e; simp at e
 | cons h _ ih =>
  intro i v e
  cases i with
  | zero => simp at e; subst e; exact ⟨_, rfl, h⟩
  | succ i => simp at e; simpa using ih e
theorem VRels.of_get {β : Place} : ∀ {l l' : List Value}, l.length = l'.length → (∀ (i : Nat) (v v' : Value), l[i]? = some v → l'[i]? = some v' → VRel β v v') → VRels β l l'
 | [], [], _, _ => .nil
 | v :: l, v' :: l', hl, h => .cons (h 0 v v' rfl rfl) (VRels.of_get (by simpa using hl) fun i a b ha hb => h (i + 1) a b (by simpa using ha) (by simpa using hb))
 | [], _ :: _, hl, _ => by simp at hl
 | _ :: _, [], hl, _ => by simp at hl
theorem VRels.take {β : Place} {l l' : List Value} (h : VRels β l l') : ∀ n, VRels β (l.take n) (l'.take n) := by
 induction h with
 | nil => intro n; simpa using VRels.nil
 | cons h _ ih => intro n; cases n with
  | zero => exact .nil
  | succ n => exact .cons h (ih n)
theorem VRels.drop {β : Place} {l l' : List Value} (h : VRels β l l') : ∀ n, VRels β (l.drop n) (l'.drop n) := by
 induction h with
 | nil => intro n; simpa using VRels.nil
 | cons h t ih => intro n; cases n with
  | zero => exact .cons h t
  | succ n => exact ih n
theorem VRels.set {β : Place} {l l' : List Value} (h : VRels β l l') {v v' : Value} (hv : VRel β v v') : ∀ i, VRels β (l.set i v) (l'.set i v') := by
 induction h with
 | nil => intro n; exact .nil
 | cons h t ih => intro n; cases n with
  | zero => exact .cons hv t
  | succ n => exact .cons h (ih n)
theorem VRel.agg_iff {β : Place} {xs : Array Value} {v : Value} : VRel β (.agg xs) v ↔ ∃ xs', v = .agg xs' ∧ VRels β xs.toList xs'.toList := by
 constructor
 ·intro h
  cases h with
  | agg hx h => exact ⟨_, rfl, VRels.of_get (by simpa using hx) fun i v v' e e' => h i v v' (by simpa using e) (by simpa using e')⟩
 ·rintro ⟨xs', rfl, h⟩
  exact .agg (by simpa using h.length) fun i v v' e e' => by
   obtain ⟨u, hu, hr⟩ := h.get (i := i) (v := v) (by simpa using e)
   have : u = v' := by simpa [e'] using hu.symm
   exact this ▸ hr
theorem VRel.tuple_iff {β : Place} {xs : Array Value} {v : Value} : VRel β (.tuple xs) v ↔ ∃ xs', v = .tuple xs' ∧ VRels β xs.toList xs'.toList := by
 constructor
 ·intro h
  cases h with
  | tuple hx h => exact ⟨_, rfl, VRels.of_get (by simpa using hx) fun i v v' e e' => h i v v' (by simpa using e) (by simpa using e')⟩
 ·rintro ⟨xs', rfl, h⟩
  exact .tuple (by simpa using h.length) fun i v v' e e' => by
   obtain ⟨u, hu, hr⟩ := h.get (i := i) (v := v) (by simpa using e)
   have : u = v' := by simpa [e'] using hu.symm
   exact this ▸ hr
theorem VRel.func_iff {β : Place} {f : Fn} {xs ys : Array Value} {v : Value} (hf : Fn.plain f = true) : VRel β (.func f xs ys) v ↔
  ∃ xs' ys', v = .func f xs' ys' ∧ VRels β xs.toList xs'.toList ∧ VRels β ys.toList ys'.toList := by
 constructor
 ·intro h
  cases h with
  | func hf hx hy h h' => exact ⟨_, _, rfl, VRels.of_get (by simpa using hx) fun i v v' e e' => h i v v' (by simpa using e) (by simpa using e'),
    VRels.of_get (by simpa using hy) fun i v v' e e' => h' i v v' (by simpa using e) (by simpa using e')⟩
  | yield h => cases hf
  | least h => cases hf
  | exact h => cases hf
 ·rintro ⟨xs', ys', rfl, h, h'⟩
  refine .func hf (by simpa using h.length) (by simpa using h'.length) (fun i v v' e e' => ?_) (fun i v v' e e' => ?_)
  ·obtain ⟨u, hu, hr⟩ := h.get (i := i) (v := v) (by simpa using e)
   have : u = v' := by simpa [e'] using hu.symm
   exact this ▸ hr
  ·obtain ⟨u, hu, hr⟩ := h'.get (i := i) (v := v) (by simpa using e)
   have : u = v' := by simpa [e'] using hu.symm
   exact this ▸ hr
theorem VRel.yield_inv {β : Place} {l : Nat} {xs ys : Array Value} {v : Value} (h : VRel β (.func (.yield l) xs ys) v) (h0 : xs.size = 0) : ∃ m s, β l = some (m, s) ∧ v = .func (.yield m) #[] #[] := by
 cases h with
 | func hf _ _ _ _ => cases hf
 | yield h => exact ⟨_, _, h, rfl⟩
 | least _ => simp at h0
 | exact _ => simp at h0
theorem VRel.cells {β : Place} {v v' : Value} (h : VRel β v v') : VRels β v.cells.toList v'.cells.toList := by
 cases h with
 | agg hx h => exact VRels.of_get (by simpa [Value.cells] using hx) fun i v v' e e' => h i v v' (by simpa [Value.cells] using e) (by simpa [Value.cells] using e')
 | bool b => exact .cons (.bool b) .nil
 | int k n => exact .cons (.int k n) .nil
 | string s => exact .cons (.string s) .nil
 | nilptr => exact .cons .nilptr .nil
 | ptr h => exact .cons (.ptr h) .nil
 | nilslice => exact .cons .nilslice .nil
 | slice h hc hn hm hr => exact .cons (.slice h hc hn hm hr) .nil
 | dud => exact .cons .dud .nil
 | zero => exact .cons .zero .nil
 | exact h => exact .cons (.exact h) .nil
 | nilmap => exact .cons .nilmap .nil
 | map h => exact .cons (.map h) .nil
 | nilchan => exact .cons .nilchan .nil
 | chan h => exact .cons (.chan h) .nil
 | nilfunc => exact .cons .nilfunc .nil
 | func hf hx hy h h' => exact .cons (.func hf hx hy h h') .nil
 | yield h => exact .cons (.yield h) .nil
 | least h => exact .cons (.least h) .nil
 | niliface => exact .cons .niliface .nil
 | iface h => exact .cons (.iface h) .nil
 | tuple hx h => exact .cons (.tuple hx h) .nil
theorem VRel.oneCell {β : Place} {v v' : Value} (h : VRel β v v') : v'.oneCell' = v.oneCell' := by
 cases h <;> rfl
inductive AObj where
 | cells (cs : List Value) (elem : TypeId) (rw : Bool)
 | map (es : List MapEntry) (clock : Nat)
 | iter (m : Option Nat) (since : Nat) (seen : List Nat) (last : Nat)
 | striter (s : ByteArray) (pos : Nat)
 | chan (cap : Nat) (buf : List Value)
 | loop (st : LoopState) (pend : Option Code) (n : Nat) (sl : List (Nat × Value)) (ps : List Tmp) (assign body : Code)
def AObj.isLoop : AObj → Bool
 | .loop .. => true
 | _ => false
def wv (t : Nat) : List (Nat × Value) → Option Value
 | [] => none
 | (t', v) :: r => if t' = t then some v else wv t r
def AObj.rw : AObj → Bool
 | .cells _ _ r => r
 | _ => true
structure Heap where
 next : Nat
 get : Nat → Option AObj
 wf : ∀ b o, get b = some o → b < next
def Heap.push (h : Heap) (o : AObj) : Heap :=
 ⟨h.next + 1, fun b => if b = h.next then some o else h.get b, fun b o' hb => by
  by_cases e : b = h.next
  ·omega
  ·simp [e] at hb; have := h.wf b o' hb; omega⟩
def Heap.set (h : Heap) (b : Nat) (o : AObj) : Heap :=
 ⟨h.next, fun b' => if b' = b then (h.get b).map (fun _ => o) else h.get b', fun b' o' hb => by
  by_cases e : b' = b
  ·subst e
   cases hg : h.get b' with
   | none => simp [hg] at hb
   | some o2 => exact h.wf _ _ hg
  ·simp [e] at hb; exact h.wf b' o' hb⟩
def Heap.kill (h : Heap) (b : Nat) : Heap :=
 ⟨h.next, fun b' => if b' = b then none else h.get b', fun b' o' hb => by
  by_cases e : b' = b
  ·simp [e] at hb
  ·simp [e] at hb; exact h.wf b' o' hb⟩
@[simp] theorem Heap.next_push (h : Heap) (o : AObj) : (h.push o).next = h.next + 1 := rfl
@[simp] theorem Heap.next_set (h : Heap) (b : Nat) (o : AObj) : (h.set b o).next = h.next := rfl
@[simp] theorem Heap.next_kill (h : Heap) (b : Nat) : (h.kill b).next = h.next := rfl
theorem Heap.get_push (h : Heap) (o : AObj) (b : Nat) : (h.push o).get b = if b = h.next then some o else h.get b := rfl
theorem Heap.get_push_self (h : Heap) (o : AObj) : (h.push o).get h.next = some o := by simp [get_push]
theorem Heap.get_push_of {h : Heap} {o o' : AObj} {b : Nat} (hb : h.get b = some o') : (h.push o).get b = some o' := by
 rw [get_push, if_neg (by have := h.wf _ _ hb; omega)]; exact hb
theorem Heap.get_push_ne (h : Heap) (o : AObj) {b : Nat} (hb : b ≠ h.next) : (h.push o).get b = h.get b := by rw [get_push, if_neg hb]
theorem Heap.get_set (h : Heap) (b : Nat) (o : AObj) (b' : Nat) : (h.set b o).get b' = if b' = b then (h.get b).map (fun _ => o) else h.get b' := rfl
theorem Heap.get_set_ne (h : Heap) {b : Nat} (o : AObj) {b' : Nat} (e : b' ≠ b) : (h.set b o).get b' = h.get b' := by rw [get_set, if_neg e]
theorem Heap.get_set_self {h : Heap} {b : Nat} {o o' : AObj} (e : h.get b = some o') : (h.set b o).get b = some o := by simp [get_set, e]
theorem Heap.get_kill (h : Heap) (b b' : Nat) : (h.kill b).get b' = if b' = b then none else h.get b' := rfl
theorem Heap.get_kill_ne (h : Heap) {b b' : Nat} (e : b' ≠ b) : (h.kill b).get b' = h.get b' := by rw [get_kill, if_neg e]
inductive ERels (β : Place) : List MapEntry → List MapEntry → Prop
 | nil : ERels β [] []
 | cons {k v v' : Value} {n : Nat} {l l' : List MapEntry} (hk : VRel β k k) (h : VRel β v v') (t : ERels β l l') : ERels β (⟨k, v, n⟩ :: l) (⟨k, v', n⟩ :: l')
def IRel (β : Place) : Option Nat → Option Nat → Prop
 | none, none => True
 | some b, some m => ∃ s, β b = some (m, s)
 | _, _ => False
theorem IRel.mono {β β' : Place} (hβ : ∀ b x, β b = some x → β' b = some x) {b m : Option Nat} (h : IRel β b m) : IRel β' b m := by
 cases b <;> cases m <;> simp only [IRel] at h ⊢
 obtain ⟨s, e⟩ := h
 exact ⟨s, hβ _ _ e⟩
def ORel (P : Program) (β : Place) (w : World) (m : Nat) (s : Sh) : AObj → Prop
 | .cells cs e rw => ∃ mc fr te, w.heap[m]? = some (.cells mc te fr) ∧ s.off + cs.length ≤ mc.size ∧
   VRels β cs ((mc.toList.drop s.off).take cs.length) ∧ (rw = true → ((∀ i, i < mc.size → ¬ (fr.1 ≤ i ∧ i < fr.2)) ∧ fr.1 ≤ fr.2) ∧ te = e ∧ mc.size = s.T ∧ (P.info? e).map (·.size) = some s.z)
 | .map es clock => ∃ mes, w.heap[m]? = some (.map mes clock) ∧ ERels β es mes.toList
 | .iter b since seen last => s.off = 0 ∧ ∃ mb, w.heap[m]? = some (.mapIter mb since seen.toArray last) ∧ IRel β b mb
 | .striter t pos => s.off = 0 ∧ w.heap[m]? = some (.stringIter t pos)
 | .chan cap buf => s.off = 0 ∧ ∃ mbuf sn rc, w.heap[m]? = some (.chan cap mbuf false sn rc false) ∧ VRels β buf mbuf.toList
 | .loop st pend n sl ps x y => s.off = 0 ∧ ∃ fn tmps d, w.heap[m]? = some (.loop { state := st, pending := pend, fn := fn, tmps := tmps, params := ps.toArray, assign := x, body := y, defers := d }) ∧
   tmps.size = n ∧ ∀ t v, wv t sl = some v → ∃ mv, tmps[t]? = some mv ∧ VRel β v mv
structure Rel (P : Program) (β : Place) (h : Heap) (w : World) : Prop where
 dom : ∀ b m s, β b = some (m, s) → b < h.next ∧ m < w.heap.size
 obj : ∀ b m s o, β b = some (m, s) → h.get b = some o → ORel P β w m s o
 inj : ∀ b b' m s s' o o', β b = some (m, s) → β b' = some (m, s') → h.get b = some o → h.get b' = some o' → o.rw = true → b = b'
def aeR (β : Place) (h : Heap) (m : Nat) : Prop := ∃ b s o, β b = some (m, s) ∧ h.get b = some o ∧ o.rw = true
structure Step (β : Place) (h : Heap) (w : World) (β' : Place) (h' : Heap) (w' : World) : Prop where
 place : ∀ b x, β b = some x → β' b = some x
 stays : ∀ b, b < h.next → β b = none → β' b = none ∧ h'.get b = h.get b
 next : h.next ≤ h'.next
 live : ∀ b o', b < h.next → h'.get b = some o' → ∃ o, h.get b = some o ∧ (o'.rw = true → o.rw = true)
 new : ∀ b m s, β b = none → β' b = some (m, s) → w.heap.size ≤ m ∨ aeR β h m
 os : w'.os = w.os
 tape : w'.tape = w.tape
 output : w'.output = w.output
 size : w.heap.size ≤ w'.heap.size
 frame : ∀ m, m < w.heap.size → ¬ aeR β h m → w'.heap[m]? = w.heap[m]?
 loops : ∀ (m : Nat) (r : Loop), w.heap[m]? = some (.loop r) → ∃ r', w'.heap[m]? = some (.loop r')
theorem Step.refl (β : Place) (h : Heap) (w : World) : Step β h w β h w :=
 ⟨fun _ _ e => e, fun _ _ e => ⟨e, rfl⟩, Nat.le_refl _, fun _ o' _ e => ⟨o', e, id⟩, fun _ _ _ e e' => by simp [e] at e', rfl, rfl, rfl, Nat.le_refl _, fun _ _ _ => rfl, fun _ r e => ⟨r, e⟩⟩
theorem Step.rwAt {P : Program} {β β1 : Place} {h h1 : Heap} {w w1 : World} (hr : Rel P β h w) (st : Step β h w β1 h1 w1) {m : Nat} (hm : m < w.heap.size) (h2 : aeR β1 h1 m) : aeR β h m := by
 obtain ⟨b, s, o, e, g, hrw⟩ := h2
 cases hb : β b with
 | some x =>
  have e2 := st.place b x hb
  rw [e] at e2
  cases e2
  obtain ⟨o0, g0, hrw0⟩ := st.live b o (hr.dom b m s hb).1 g
  exact ⟨b, s, o0, hb, g0, hrw0 hrw⟩
 | none =>
  rcases st.new b m s hb e with hge | h3
  ·omega
  ·exact h3
theorem Step.deferred {P : Program} {β β1 : Place} {h h1 : Heap} {w w1 : World} (hr : Rel P β h w) (st : Step β h w β1 h1 w1) {m : Nat} {q : Option (List Deferred)} (e : w.heap[m]? = some (.deferred q)) : w1.heap[m]? = some (.deferred q) := by
 rw [st.frame m (Array.getElem?_eq_some_iff.1 e).1 ?_, e]
 rintro ⟨b, s, o, hb, hg, _⟩
 have := hr.obj b m s o hb hg
 cases o with
 | cells => obtain ⟨_, _, _, h1, _⟩ := this; rw [e] at h1; cases h1
 | map => obtain ⟨_, h1, _⟩ := this; rw [e] at h1; cases h1
 | iter => obtain ⟨_, _, h1, _⟩ := this; rw [e] at h1; cases h1
 | striter => obtain ⟨_, h1⟩ := this; rw [e] at h1; cases h1
 | chan => obtain ⟨_, _, _, _, h1, _⟩ := this; rw [e] at h1; cases h1
 | loop => obtain ⟨_, _, _, _, h1, _⟩ := this; rw [e] at h1; cases h1
theorem Step.trans {P : Program} {β β1 β2 : Place} {h h1 h2 : Heap} {w w1 w2 : World} (hr : Rel P β h w) (a : Step β h w β1 h1 w1) (c : Step β1 h1 w1 β2 h2 w2) : Step β h w β2 h2 w2 := by
 refine ⟨fun b x e => c.place b x (a.place b x e), fun b hb e => ?_, Nat.le_trans a.next c.next, fun b o' hb g => ?_, fun b m s e e' => ?_,
  c.os.trans a.os, c.tape.trans a.tape, c.output.trans a.output, Nat.le_trans a.size c.size, fun m hm hn => ?_, fun m r e => let ⟨r1, e1⟩ := a.loops m r e; c.loops m r1 e1⟩
 ·obtain ⟨e1, g1⟩ := a.stays b hb e
  obtain ⟨e2, g2⟩ := c.stays b (Nat.lt_of_lt_of_le hb a.next) e1
  exact ⟨e2, g2.trans g1⟩
 ·obtain ⟨o1, g1, r1⟩ := c.live b o' (Nat.lt_of_lt_of_le hb a.next) g
  obtain ⟨o0, g0, r0⟩ := a.live b o1 hb g1
  exact ⟨o0, g0, fun e => r0 (r1 e)⟩
 ·cases e1 : β1 b with
  | some x =>
   have := c.place b x e1
   rw [e'] at this
   cases this
   exact a.new b m s e e1
  | none =>
   rcases c.new b m s e1 e' with hge | hrw
   ·exact .inl (Nat.le_trans a.size hge)
   ·rcases Nat.lt_or_ge m w.heap.size with hlt | hge
    ·exact .inr (a.rwAt hr hlt hrw)
    ·exact .inl hge
 ·rw [c.frame m (Nat.lt_of_lt_of_le hm a.size) (fun hrw => hn (a.rwAt hr hm hrw)), a.frame m hm hn]
open Go.RowKit
def qF : Value → Bool
 | .bool _ => true
 | .int _ _ => true
 | .string _ => true
 | .pointer none => true
 | .map none => true
 | .chan none => true
 | .nilFunc => true
 | .nilIface => true
 | .slice none n c => n == 0 && c == 0
 | .tuple xs => xs.size == 0
 | _ => false
theorem VRel.const {β : Place} {v : Value} (h : qF v = true) : VRel β v v := by
 cases v with
 | bool b => exact .bool b
 | int k n => exact .int k n
 | string s => exact .string s
 | pointer a => cases a with
  | none => exact .nilptr
  | some a => simp [qF] at h
 | slice a n c => cases a with
  | none => simp [qF] at h; obtain ⟨rfl, rfl⟩ := h; exact .nilslice
  | some a => simp [qF] at h
 | map r => cases r with
  | none => exact .nilmap
  | some a => simp [qF] at h
 | chan r => cases r with
  | none => exact .nilchan
  | some a => simp [qF] at h
 | nilFunc => exact .nilfunc
 | nilIface => exact .niliface
 | tuple xs =>
  have : xs = #[] := by simpa [qF] using h
  subst this
  exact VRel.tuple_iff.2 ⟨#[], rfl, .nil⟩
 | float k b => simp [qF] at h
 | complex k a b => simp [qF] at h
 | func f a b => simp [qF] at h
 | iface t v => simp [qF] at h
 | agg xs => simp [qF] at h
theorem VRel.undef {β : Place} : VRel β undef undef := VRel.const rfl
def U2 (P : Program) (t : TypeId) : Bool :=
 match P.underlying t with
 | some (.struct _) => true
 | some (.array _ _) => true
 | _ => false
def szT (P : Program) (t : TypeId) : Option Nat := (P.info? t).map (·.size)
theorem zJ {P : Program} {t : TypeId} {n : Nat} (h : szT P t = some n) (w : World) : (sizeOf t).run P w = .ok n w := by
 unfold szT at h
 cases hi : P.info? t with
 | none => simp [hi] at h
 | some i => simp [hi] at h; simp [sizeOf, typeInfo, hi, h]
theorem Yz {P : Program} {t : TypeId} {d : TypeDesc} (h : P.underlying t = some d) (w : World) : (isAgg t).run P w = .ok (U2 P t) w := by
 unfold isAgg U2
 rw [Sem.run_bind, run_underlying h w]
 cases d <;> simp [h]
def wy (P : Program) (t : TypeId) (cs : List Value) (off : Nat) : Option Value :=
 match P.underlying t with
 | none => none
 | some _ =>
  if U2 P t then
   match szT P t with
   | some n => if off + n ≤ cs.length then some (.agg ((cs.drop off).take n).toArray) else none
   | none => none
  else cs[off]?
theorem jk {P : Program} {β : Place} {t : TypeId} {cs : List Value} {mcs : Array Value} {off : Nat} {v : Value} (hr : VRels β cs mcs.toList) (h : wy P t cs off = some v) (w : World) :
  ∃ mv, (part t mcs off).run P w = .ok mv w ∧ VRel β v mv := by
 unfold wy at h
 cases hu : P.underlying t with
 | none => simp [hu] at h
 | some d =>
  simp only [hu] at h
  by_cases ha : U2 P t = true
  ·simp only [ha, if_true] at h
   cases hs : szT P t with
   | none => simp [hs] at h
   | some n =>
    simp only [hs] at h
    split at h
    ·cases h
     refine ⟨_, by simp only [part, Sem.run_bind, Yz hu w, ha, Result.andThen_ok, if_true, Sem.run_ite, zJ hs w]; rfl, ?_⟩
     refine VRel.agg_iff.2 ⟨_, rfl, ?_⟩
     have := (hr.drop off).take n
     simpa [Array.toList_extract, List.extract_eq_take_drop] using this
    ·cases h
  ·simp only [ha] at h
   obtain ⟨mv, e, r⟩ := hr.get h
   refine ⟨mv, ?_, r⟩
   have e' : mcs[off]? = some mv := by simpa using e
   simp only [part, Sem.run_bind, Yz hu w, Result.andThen_ok, e']
   simp [ha]
def yG (E : TypeId → Value → Value → Option Bool) (P : Program) (xs ys : List Value) : List Field → Option Bool
 | [] => some true
 | f :: fs =>
  if f.name ≠ "_" then
   match wy P f.type xs f.offset, wy P f.type ys f.offset with
   | some a, some b =>
    match E f.type a b with
    | some r => (yG E P xs ys fs).map (r && ·)
    | none => none
   | _, _ => none
  else yG E P xs ys fs
def Ko (E : Value → Value → Option Bool) (P : Program) (e : TypeId) (c : Nat) (xs ys : List Value) : List Nat → Option Bool
 | [] => some true
 | i :: is =>
  match wy P e xs (i * c), wy P e ys (i * c) with
  | some a, some b =>
   match E a b with
   | some r => (Ko E P e c xs ys is).map (r && ·)
   | none => none
  | _, _ => none
def eqV (P : Program) : Nat → TypeId → Value → Value → Option Bool
 | 0, _, _, _ => none
 | d + 1, t, x, y =>
  match P.underlying t, x, y with
  | some .bool, .bool a, .bool b => some (a == b)
  | some (.int _), .int k a, .int k' b => if k = k' then some (a == b) else none
  | some .string, .string a, .string b => some (a.toList == b.toList)
  | some (.struct fs), .agg xs, .agg ys => if P.stoodInHeld t then none else yG (eqV P d) P xs.toList ys.toList fs.toList
  | some (.array n e), .agg xs, .agg ys => if (P.info? e).isSome then Ko (eqV P d e) P e (P.cellsOf e) xs.toList ys.toList (List.range n) else none
  | some (.pointer _), .pointer none, .pointer b => some b.isNone
  | some (.pointer _), .pointer (some _), .pointer none => some false
  | some (.slice _), .slice none _ _, .slice b _ _ => some b.isNone
  | some (.slice _), .slice (some _) _ _, .slice none _ _ => some false
  | some (.map _ _), .map none, .map b => some b.isNone
  | some (.map _ _), .map (some _), .map none => some false
  | some (.func _ _ _), .nilFunc, .nilFunc => some true
  | some (.func _ _ _), .nilFunc, .func (.func _) _ _ => some false
  | some (.func _ _ _), .func (.func _) _ _, .nilFunc => some false
  | _, _, _ => none
theorem vu {P : Program} {β : Place} (d : Nat) : ∀ {t : TypeId} {x y mx my : Value} {r : Bool}, VRel β x mx → VRel β y my → eqV P d t x y = some r → ∀ w, (Op.equalIn d t mx my).run P w = .ok r w := by
 induction d with
 | zero => intro t x y mx my r _ _ h; simp [eqV] at h
 | succ d ih =>
  intro t x y mx my r hx hy h w
  unfold eqV at h
  cases hu : P.underlying t with
  | none => simp [hu] at h
  | some D =>
   rw [hu] at h
   have hru := run_underlying hu w
   split at h
   ·rename_i e; cases e; cases hx; cases hy; cases h; simp [Op.equalIn, hru]
   ·rename_i e; cases e; cases hx; cases hy
    split at h
    ·rename_i hk; cases h; simp [Op.equalIn, hru, hk]
    ·cases h
   ·rename_i e; cases e; cases hx; cases hy; cases h; simp [Op.equalIn, hru, beq_toListBytes]
   ·rename_i fs xs ys e
    cases e
    split at h
    ·cases h
    ·rename_i hst
     obtain ⟨mxs, rfl, rx⟩ := VRel.agg_iff.1 hx
     obtain ⟨mys, rfl, ry⟩ := VRel.agg_iff.1 hy
     have hf : P.fieldsOf t = fs := by simp [Program.fieldsOf, hu]
     rw [run_equalIn_struct w d t mxs mys (by rw [hf]; exact hu) (by simpa using hst), hf]
     clear hru
     generalize fs.toList = l at h
     induction l generalizing r with
     | nil => simp [yG] at h; subst h; simp [Op.eqFields]
     | cons f l ihl =>
      unfold yG at h
      split at h
      ·rename_i hn
       split at h
       ·rename_i a b ha hb
        obtain ⟨ma, ea, ra⟩ := jk rx ha w
        obtain ⟨mb, eb, rb⟩ := jk ry hb w
        split at h
        ·rename_i q hq
         have e1 := ih ra rb hq w
         cases hrest : yG (eqV P d) P xs.toList ys.toList l with
         | none => simp [hrest] at h
         | some r2 =>
          simp [hrest] at h
          have h2 := ihl hrest
          simp only [Op.eqFields, hn, if_true, Sem.run_bind, ea, eb, e1, Result.andThen_ok, ne_eq, not_false_eq_true, Sem.run_ite]
          cases q
          ·simp at h; subst h; simp
          ·simp at h; subst h; simpa using h2
        ·cases h
       ·cases h
      ·rename_i hn
       simp only [Op.eqFields, hn, if_false]
       exact ihl h
   ·rename_i n e xs ys e0
    cases e0
    split at h
    ·rename_i hi
     obtain ⟨i, hi⟩ := Option.isSome_iff_exists.1 hi
     obtain ⟨mxs, rfl, rx⟩ := VRel.agg_iff.1 hx
     obtain ⟨mys, rfl, ry⟩ := VRel.agg_iff.1 hy
     rw [run_equalIn_array w d mxs mys hu hi]
     clear hru
     generalize List.range n = l at h ⊢
     induction l generalizing r with
     | nil => simp [Ko] at h; subst h; simp [Op.eqItems]
     | cons f l ihl =>
      unfold Ko at h
      split at h
      ·rename_i a b ha hb
       obtain ⟨ma, ea, ra⟩ := jk rx ha w
       obtain ⟨mb, eb, rb⟩ := jk ry hb w
       split at h
       ·rename_i q hq
        have e1 := ih ra rb hq w
        cases hrest : Ko (eqV P d e) P e (P.cellsOf e) xs.toList ys.toList l with
        | none => simp [hrest] at h
        | some r2 =>
         simp [hrest] at h
         have h2 := ihl hrest
         simp only [Op.eqItems, Sem.run_bind, ea, eb, e1, Result.andThen_ok, Sem.run_ite]
         cases q
         ·simp at h; subst h; simp
         ·simp at h; subst h; simpa using h2
       ·cases h
      ·cases h
    ·cases h
   ·rename_i e; cases e; cases hx; cases hy <;> (cases h; simp [Op.equalIn, hru])
   ·rename_i e; cases e; cases hx; cases hy; cases h; simp [Op.equalIn, hru]
   ·rename_i e; cases e; cases hx; cases hy <;> (cases h; simp [Op.equalIn, hru])
   ·rename_i e; cases e; cases hy; cases hx <;> (cases h; simp [Op.equalIn, hru])
   ·rename_i e; cases e; cases hx; cases hy <;> (cases h; simp [Op.equalIn, hru])
   ·rename_i e; cases e; cases hy; cases hx; cases h; simp [Op.equalIn, hru]
   ·rename_i e; cases e; cases hx <;> cases hy <;> (cases h; simp [Op.equalIn, hru])
   ·rename_i e; cases e; cases hx <;> cases hy <;> (cases h; simp [Op.equalIn, hru])
   ·rename_i e; cases e; cases hx <;> cases hy <;> (cases h; simp [Op.equalIn, hru])
   ·cases h
open Go.RowKit
def QK (op : BinOp) (k : IntKind) (a b : Int) : Option Value :=
 match op with
 | .add => some (.int k (k.wrap (a + b)))
 | .sub => some (.int k (k.wrap (a - b)))
 | .mul => some (.int k (k.wrap (a * b)))
 | .quo => if b = 0 then none else some (.int k (k.wrap (a.tdiv b)))
 | .rem => if b = 0 then none else some (.int k (a.tmod b))
 | .and => some (.int k (bits .and k a b))
 | .or => some (.int k (bits .or k a b))
 | .xor => some (.int k (bits .xor k a b))
 | .andNot => some (.int k (bits .andNot k a b))
 | .eql => some (.bool (a == b))
 | .neq => some (.bool (a != b))
 | .lss => some (.bool (decide (a < b)))
 | .leq => some (.bool (decide (a ≤ b)))
 | .gtr => some (.bool (decide (b < a)))
 | .geq => some (.bool (decide (b ≤ a)))
 | _ => none
def QF (op : BinOp) (k : IntKind) (a b : Int) : Option Value :=
 if b < 0 then none else
 match op with
 | .shl => some (.int k (k.wrap (a * 2 ^ (min b.toNat k.bits))))
 | .shr => some (.int k (a.fdiv (2 ^ (min b.toNat k.bits))))
 | _ => none
def Ua (op : BinOp) (a b : ByteArray) : Option Value :=
 match op with
 | .add => if a.size + b.size ≤ 9223372036854775807 then some (.string (a ++ b)) else none
 | .eql => some (.bool (a.toList == b.toList))
 | .neq => some (.bool (!(a.toList == b.toList)))
 | .lss => some (.bool (Op.bytesLess a.toList b.toList))
 | _ => none
def zy : BinOp → Bool
 | .shl => true
 | .shr => true
 | _ => false
def qZ (P : Program) (op : BinOp) (t : TypeId) (x y : Value) : Option Value :=
 match x, y with
 | .int k a, .int k' b => if zy op then QF op k a b else if k = k' then QK op k a b else none
 | .string a, .string b => Ua op a b
 | .agg xs, .agg ys =>
  if P.eqGuardType P.depth t then none else
  match op with
  | .eql => (eqV P 10000 t (.agg xs) (.agg ys)).map .bool
  | .neq => (eqV P 10000 t (.agg xs) (.agg ys)).map (fun r => .bool (!r))
  | _ => none
 | .int k m, .func (.yield n) xs _ => match op, k with
  | .gtr, .i64 => if m ≤ n ∧ xs.size = 1 then some (.bool false) else none
  | _, _ => none
 | x, y =>
  match op with
  | .eql => (eqV P 10000 t x y).map .bool
  | .neq => (eqV P 10000 t x y).map (fun r => .bool (!r))
  | _ => none
theorem UQ {op : BinOp} {t : TypeId} {x y : Operand} {k k' : IntKind} {a b : Int} : eqGuard op t x y (.int k a) (.int k' b) = pure () := by cases op <;> rfl
theorem a0x {op : BinOp} {t : TypeId} {x y : Operand} {a : ByteArray} {v : Value} : eqGuard op t x y (.string a) v = pure () := by cases op <;> rfl
theorem a4W {op : BinOp} {t : TypeId} {x y : Operand} {a b : Value} (h : ∀ xs ys, ¬ (a = .agg xs ∧ b = .agg ys)) (h2 : ¬ (a = .nilIface ∧ b = .nilIface)) : eqGuard op t x y a b = pure () := by
 unfold eqGuard
 cases op <;> cases a <;> cases b <;> first | rfl | (exact absurd ⟨rfl, rfl⟩ h2) | (exact absurd ⟨rfl, rfl⟩ (h _ _)) 
theorem a98 {P : Program} {op : BinOp} {t : TypeId} {k : IntKind} {a b : Int} {v : Value} (hs : zy op = false) (h : QK op k a b = some v) (w : World) :
  (binOp op t (.int k a) (.int k b)).run P w = .ok v w := by
 cases op <;> simp only [QK] at h <;> first
  | (cases h; simp [binOp, Op.intArith, Op.intCmp]; done)
  | (cases h; simp only [binOp_and, binOp_or, binOp_xor, binOp_andNot, intBits_and, intBits_or, intBits_xor, intBits_andNot, Sem.run_pure]; done)
  | (split at h
     ·cases h
     ·rename_i hb; cases h; simp [binOp, Op.intDiv, hb])
  | (cases h)
theorem abi {P : Program} {op : BinOp} {t : TypeId} {k k' : IntKind} {a b : Int} {v : Value} (h : QF op k a b = some v) (w : World) :
  (binOp op t (.int k a) (.int k' b)).run P w = .ok v w := by
 unfold QF at h
 split at h
 ·cases h
 ·rename_i hb
  cases op <;> simp at h
  ·subst h; simp [binOp, Op.shift, hb]
  ·subst h; simp [binOp, Op.shift, hb]
theorem agi {P : Program} {op : BinOp} {t : TypeId} {a b : ByteArray} {v : Value} (h : Ua op a b = some v) (w : World) :
  (binOp op t (.string a) (.string b)).run P w = .ok v w := by
 cases op with
 | add =>
  simp only [Ua] at h
  by_cases hb : a.size + b.size ≤ 9223372036854775807
  ·rw [if_pos hb] at h
   cases h
   have : ¬ (((a.size + b.size : Nat) : Int) > IntKind.i64.max) := by rw [IntKind.max_i64]; omega
   rw [binOp_string_add]
   simp only [Op.stringOp]
   rw [if_neg this]
   rfl
  ·rw [if_neg hb] at h; cases h
 | eql => simp only [Ua] at h; cases h; simp [binOp, Op.stringOp]
 | neq => simp only [Ua] at h; cases h; simp [binOp, Op.stringOp]
 | lss => simp only [Ua] at h; cases h; simp [binOp, Op.stringOp]
 | _ => simp only [Ua] at h; cases h
theorem a1X {P : Program} (d : Nat) (t : TypeId) : eqV P (d + 1) t .nilIface .nilIface = none := by
 unfold eqV
 cases P.underlying t with
 | none => rfl
 | some D => cases D <;> rfl
theorem a4f {P : Program} (d : Nat) (t : TypeId) {n : Nat} {xs ys : Array Value} {y : Value} : eqV P (d + 1) t (.func (.yield n) xs ys) y = none := by
 unfold eqV
 cases P.underlying t with
 | none => rfl
 | some D => cases D <;> cases y <;> rfl
theorem a4P {P : Program} (d : Nat) (t : TypeId) {n : Nat} {xs ys : Array Value} {y : Value} : eqV P (d + 1) t y (.func (.yield n) xs ys) = none := by
 unfold eqV
 split <;> first | rfl | simp_all
theorem a7i {P : Program} {β : Place} {op : BinOp} {t : TypeId} {x y : Value} {mx my : Value} {v : Value} (hx : VRel β x mx) (hy : VRel β y my) (h : qZ P op t x y = some v) (ox oy : Operand) (w : World) :
  ((do eqGuard op t ox oy mx my; binOp op t mx my : Sem Value)).run P w = .ok v w ∧ qF v = true := by
 have general : ∀ {x y mx my : Value}, VRel β x mx → VRel β y my → (∀ r : Bool, (∀ w, (Op.equalIn 10000 t mx my).run P w = .ok r w) → (eqGuard op t ox oy mx my).run P w = .ok () w → (∀ k a k' b, ¬ (mx = .int k a ∧ my = .int k' b)) → (∀ a b, ¬ (mx = .string a ∧ my = .string b)) → 
   (op = .eql → ((do eqGuard op t ox oy mx my; binOp op t mx my : Sem Value)).run P w = .ok (.bool r) w) ∧ (op = .neq → ((do eqGuard op t ox oy mx my; binOp op t mx my : Sem Value)).run P w = .ok (.bool (!r)) w)) := by
  intro x y mx my hx hy r hr hg h1 h2
  have hb1 : (binOp .eql t mx my).run P w = .ok (.bool r) w := by
   cases hx <;> cases hy <;> first
    | (exact absurd ⟨rfl, rfl⟩ (h1 _ _ _ _))
    | (exact absurd ⟨rfl, rfl⟩ (h2 _ _))
    | (simp only [binOp, Op.equal, Op.maxDepth, Sem.run_bind, hr, Result.andThen_ok, Sem.run_pure]; done)
    | (simp [binOp, Op.equal, Op.maxDepth, hr]; done)
  have hb2 : (binOp .neq t mx my).run P w = .ok (.bool (!r)) w := by
   cases hx <;> cases hy <;> first
    | (exact absurd ⟨rfl, rfl⟩ (h1 _ _ _ _))
    | (exact absurd ⟨rfl, rfl⟩ (h2 _ _))
    | (simp only [binOp, Op.equal, Op.maxDepth, Sem.run_bind, hr, Result.andThen_ok, Sem.run_pure]; done)
    | (simp [binOp, Op.equal, Op.maxDepth, hr]; done)
  exact ⟨fun e => by subst e; simp only [Sem.run_bind, hg, Result.andThen_ok, hb1], fun e => by subst e; simp only [Sem.run_bind, hg, Result.andThen_ok, hb2]⟩
 unfold qZ at h
 split at h
 ·cases hx; cases hy
  rename_i k a k' b
  simp only [UQ, Sem.run_bind, Sem.run_pure, Result.andThen_ok]
  split at h
  ·refine ⟨abi h w, ?_⟩
   unfold QF at h
   split at h
   ·cases h
   ·cases op <;> simp at h <;> subst h <;> rfl
  ·rename_i hs
   split at h
   ·rename_i hk
    subst hk
    refine ⟨a98 (by simpa using hs) h w, ?_⟩
    cases op <;> simp only [QK] at h <;> first | (cases h; rfl) | (split at h <;> cases h <;> rfl) | (cases h)
   ·cases h
 ·cases hx; cases hy
  simp only [a0x, Sem.run_bind, Sem.run_pure, Result.andThen_ok]
  refine ⟨agi h w, ?_⟩
  cases op <;> simp only [Ua] at h <;> first | (cases h; rfl) | (split at h <;> cases h <;> rfl) | (cases h)
 ·rename_i xs ys
  split at h
  ·cases h
  ·rename_i hgt
   obtain ⟨mxs, rfl, rx⟩ := VRel.agg_iff.1 hx
   obtain ⟨mys, rfl, ry⟩ := VRel.agg_iff.1 hy
   have hg := run_eqGuard_agg (P := P) w op t ox oy mxs mys (by simpa using hgt)
   cases he : eqV P 10000 t (.agg xs) (.agg ys) with
   | none => cases op <;> simp [he] at h
   | some r =>
    have hr := vu (P := P) 10000 hx hy he
    have := general hx hy r hr hg (by simp) (by simp)
    cases op <;> simp [he] at h
    ·subst h; exact ⟨this.1 rfl, rfl⟩
    ·subst h; exact ⟨this.2 rfl, rfl⟩
 ·rename_i k m n xs ys
  split at h
  ·split at h
   ·rename_i hm
    cases h
    cases hx
    cases hy with
    | func hf _ _ _ _ => cases hf
    | yield hb =>
     simp at hm
    | exact _ =>
     simp at hm
    | @least _ k hk =>
     refine ⟨?_, rfl⟩
     simp only [UQ, Sem.run_bind, Sem.run_pure, Result.andThen_ok]
     obtain ⟨hm, _⟩ := hm
     have := a98 (P := P) (op := .gtr) (t := t) (k := .i64) (a := m) (b := k) (v := .bool false) rfl (by simp [QK]; omega) w
     exact this
   ·cases h
  ·cases h
 ·rename_i n1 n2 n3 n4
  cases he : eqV P 10000 t x y with
  | none => cases op <;> simp [he] at h
  | some r =>
   have hr := vu (P := P) 10000 hx hy he
   have hnn : ¬ (mx = .nilIface ∧ my = .nilIface) := by
    rintro ⟨rfl, rfl⟩
    cases hx; cases hy
    rw [a1X 9999 t] at he
    cases he
   have hg : (eqGuard op t ox oy mx my).run P w = .ok () w := by
    rw [a4W (fun xs ys => ?_) hnn]
    ·rfl
    ·rintro ⟨rfl, rfl⟩
     cases hx; cases hy
     exact n3 _ _ rfl rfl
   have := general hx hy r hr hg (by
    rintro k a k' b ⟨rfl, rfl⟩
    cases hx with
    | least _ => rw [a4f 9999] at he; cases he
    | int =>
     cases hy with
     | least _ => rw [a4P 9999] at he; cases he
     | int => exact n1 _ _ _ _ rfl rfl) (by rintro a b ⟨rfl, rfl⟩; cases hx; cases hy; exact n2 _ _ rfl rfl)
   cases op <;> simp [he] at h
   ·subst h; exact ⟨this.1 rfl, rfl⟩
   ·subst h; exact ⟨this.2 rfl, rfl⟩
open Go.RowKit
def unV (op : UnOp) (x : Value) : Option Value :=
 match op, x with
 | .not, .bool b => some (.bool (!b))
 | .neg, .int k n => some (.int k (k.wrap (0 - n)))
 | .xor, .int k n => some (.int k (bits .xor k (if k.signed then -1 else k.max) n))
 | _, _ => none
def vS (P : Program) (src dst : TypeId) (x : Value) : Option Value :=
 match P.underlying src, P.underlying dst, x with
 | some _, some (.int k), .int _ n => some (.int k (k.wrap n))
 | some .string, some .string, .string s => some (.string s)
 | _, _, _ => none
def Wj (P : Program) (t : TypeId) (x : Value) (f : Nat) : Option Value :=
 match P.underlying t, x with
 | some (.struct fs), .agg cs =>
  match fs[f]? with
  | some fd => wy P fd.type cs.toList fd.offset
  | none => none
 | _, _ => none
def jh (P : Program) (t : TypeId) (x : Value) (f : Nat) : Option Value :=
 match P.underlying t, x with
 | some (.struct fs), .pointer (some ⟨b, o, none⟩) =>
  match fs[f]? with
  | some fd =>
   match szT P fd.type with
   | some n => if n = 0 then none else some (.pointer (some ⟨b, o + fd.offset, none⟩))
   | none => none
  | none => none
 | _, _ => none
def kR : Value → Option Nat
 | .int _ i => if 0 ≤ i then some i.toNat else none
 | _ => none
def ky (P : Program) (t : TypeId) (x i : Value) : Option Value :=
 match P.underlying t, x, kR i with
 | some (.slice e), .slice (some ⟨b, o, none⟩) n _, some i =>
  match szT P e with
  | some s => if i < n then some (.pointer (some ⟨b, o + i * s, none⟩)) else none
  | none => none
 | some (.array len e), .pointer (some ⟨b, o, none⟩), some i =>
  match szT P e with
  | some s => if i < len then some (.pointer (some ⟨b, o + i * s, none⟩)) else none
  | none => none
 | _, _, _ => none
def ZT (P : Program) (t : TypeId) (x i : Value) : Option Value :=
 match P.underlying t, x, kR i with
 | some (.array len e), .agg cs, some i =>
  match szT P e with
  | some s => if i < len then wy P e cs.toList (i * s) else none
  | none => none
 | some .string, .string s, some i => (s[i]?).map fun b => .int .u8 b.toNat
 | _, _, _ => none
def qE (n c : Nat) (lo hi mx : Option Value) : Option (Nat × Nat × Option Nat) :=
 match mx with
 | some vm =>
  match kR vm, hi with
  | some m, some vh =>
   match kR vh with
   | some h =>
    if m ≤ c ∧ h ≤ m then
     match lo with
     | some vl => match kR vl with | some l => if l ≤ h then some (l, h, some m) else none | none => none
     | none => some (0, h, some m)
    else none
   | none => none
  | _, _ => none
 | none =>
  match hi with
  | some vh =>
   match kR vh with
   | some h =>
    if h ≤ c then
     match lo with
     | some vl => match kR vl with | some l => if l ≤ h then some (l, h, none) else none | none => none
     | none => some (0, h, none)
    else none
   | none => none
  | none =>
   match lo with
   | some vl => match kR vl with | some l => if l ≤ n then some (l, n, none) else none | none => none
   | none => some (0, n, none)
theorem jD {P : Program} {x : Value} {i y : Nat} {code : BoundsCode} (h : kR x = some i) (hi : i ≤ y) (w : World) : (Instr.sliceBound x y code).run P w = .ok i w := by
 cases x with
 | int k j =>
  simp only [kR] at h
  split at h
  ·rename_i h0
   cases h
   have h1 : j ≤ (y : Int) := by omega
   simp [Instr.sliceBound, asIntOf, h0, h1]
  ·cases h
 | _ => simp [kR] at h
theorem VRel.idx {β : Place} {x mx : Value} {i : Nat} (hx : VRel β x mx) (h : kR x = some i) : kR mx = some i := by
 cases hx <;> first | exact h | (simp [kR] at h)
inductive ORels (β : Place) : Option Value → Option Value → Prop
 | none : ORels β .none .none
 | some {v v' : Value} (h : VRel β v v') : ORels β (.some v) (.some v')
theorem wS {P : Program} {β : Place} {b : Bool} {n c c' : Nat} {lo hi mx mlo mhi mmx : Option Value} {l h : Nat} {om : Option Nat} (hlo : ORels β lo mlo) (hhi : ORels β hi mhi) (hmx : ORels β mx mmx) (hc : c ≤ c')
  (e : qE n c lo hi mx = some (l, h, om)) (w : World) : (Instr.sliceBounds b n c' mlo mhi mmx).run P w = .ok (l, h, om.getD c') w ∧ l ≤ h := by
 unfold qE at e
 cases hmx with
 | @some vm vm' rm =>
  cases hm : kR vm with
  | none => simp [hm] at e
  | some m =>
   have hm' := rm.idx hm
   cases hhi with
   | none => simp [hm] at e
   | @some vh vh' rh =>
    simp only [hm] at e
    cases hh : kR vh with
    | none => simp [hh] at e
    | some h0 =>
     have hh' := rh.idx hh
     simp only [hh] at e
     split at e
     ·rename_i hle
      cases hlo with
      | none =>
       cases e
       refine ⟨?_, Nat.zero_le _⟩
       simp [Instr.sliceBounds, jD hm' (Nat.le_trans hle.1 hc), jD hh' hle.2]
      | @some vl vl' rl =>
       cases hl : kR vl with
       | none => simp [hl] at e
       | some l0 =>
        have hl' := rl.idx hl
        simp only [hl] at e
        split at e
        ·rename_i hll
         cases e
         refine ⟨?_, hll⟩
         simp [Instr.sliceBounds, jD hm' (Nat.le_trans hle.1 hc), jD hh' hle.2, jD hl' hll]
        ·cases e
     ·cases e
 | none =>
  cases hhi with
  | @some vh vh' rh =>
   cases hh : kR vh with
   | none => simp [hh] at e
   | some h0 =>
    have hh' := rh.idx hh
    simp only [hh] at e
    split at e
    ·rename_i hle
     cases hlo with
     | none =>
      cases e
      refine ⟨?_, Nat.zero_le _⟩
      simp [Instr.sliceBounds, jD hh' (Nat.le_trans hle hc)]
     | @some vl vl' rl =>
      cases hl : kR vl with
      | none => simp [hl] at e
      | some l0 =>
       have hl' := rl.idx hl
       simp only [hl] at e
       split at e
       ·rename_i hll
        cases e
        refine ⟨?_, hll⟩
        simp [Instr.sliceBounds, jD hh' (Nat.le_trans hle hc), jD hl' hll]
       ·cases e
    ·cases e
  | none =>
   cases hlo with
   | none =>
    cases e
    exact ⟨by simp [Instr.sliceBounds], Nat.zero_le _⟩
   | @some vl vl' rl =>
    cases hl : kR vl with
    | none => simp [hl] at e
    | some l0 =>
     have hl' := rl.idx hl
     simp only [hl] at e
     split at e
     ·rename_i hll
      cases e
      exact ⟨by simp [Instr.sliceBounds, jD hl' hll], hll⟩
     ·cases e
def qP (n c : Nat) : Nat := if c = unk then n else if c = qG then n else if c = dud then 0 else c
def z9 (P : Program) (E : Nat → Option Nat) (t : TypeId) (x : Value) (lo hi mx : Option Value) : Option Value :=
 match P.underlying t, x with
 | some .string, .string s =>
  if mx.isSome then none else
  match qE s.size s.size lo hi none with
  | some (l, h, _) => some (.string (s.extract l h))
  | none => none
 | some (.array n e), .pointer (some ⟨b, o, none⟩) =>
  match szT P e, qE n n lo hi mx with
  | some s, some (l, h, om) => if om.getD n ≤ maxLen then (if om.getD n = l then some (.slice (some ⟨b, o, none⟩) (h - l) 0) else some (.slice (some ⟨b, o + l * s, none⟩) (h - l) qG)) else none
  | _, _ => none
 | some (.slice e), .slice none 0 0 =>
  match szT P e, qE 0 0 lo hi mx with
  | some _, some _ => some (.slice none 0 0)
  | _, _ => none
 | some (.slice e), .slice (some ⟨b, o, none⟩) n c =>
  match szT P e, qE n (qP n c) lo hi mx with
  | some s, some (l, h, om) =>
   if c = dud then (match om with | some _ => some (.slice (some ⟨b, o, none⟩) 0 0) | none => some (.slice (some ⟨b, o, none⟩) 0 dud)) else
   if c ≠ qG ∧ ¬ (n = 0 ∧ c = 0) ∧ E b ≠ some s then none else
   match om with
   | some m => if m = l then some (.slice (some ⟨b, o, none⟩) (h - l) 0) else (if c = qG ∧ m = h then some (xX (.slice (some ⟨b, o + l * s, none⟩) (h - l) qG)) else some (.slice (some ⟨b, o + l * s, none⟩) (h - l) (if c = qG then qG else m - l)))
   | none =>
    if c = unk ∨ c = qG then (if l < n then some (.slice (some ⟨b, o + l * s, none⟩) (h - l) c) else some (.slice (some ⟨b, o, none⟩) 0 dud))
    else if c = l then some (.slice (some ⟨b, o, none⟩) (h - l) 0) else some (.slice (some ⟨b, o + l * s, none⟩) (h - l) (c - l))
  | _, _ => none
 | _, _ => none
theorem abG {P : Program} {β : Place} {op : UnOp} {x mx v : Value} (hx : VRel β x mx) (h : unV op x = some v) (w : World) : (Op.unary op mx).run P w = .ok v w ∧ VRel β v v := by
 unfold unV at h
 split at h
 ·cases hx; cases h; exact ⟨rfl, .bool _⟩
 ·cases hx; cases h; exact ⟨by simp [Op.unary, Op.intArith], .int _ _⟩
 ·cases hx; cases h; exact ⟨by rw [unary_xor, intBits_xor]; rfl, .int _ _⟩
 ·cases h
theorem vW {P : Program} {β : Place} {src dst : TypeId} {x mx v : Value} (hx : VRel β x mx) (h : vS P src dst x = some v) (w : World) : (convert src dst mx).run P w = .ok v w ∧ VRel β v v := by
 unfold vS at h
 split at h
 ·rename_i D k k' n e1 e2
  cases hx; cases h
  refine ⟨?_, .int _ _⟩
  simp [convert, run_underlying e1, run_underlying e2, Conv.intToInt]
 ·rename_i s e1 e2
  cases hx; cases h
  refine ⟨?_, .string _⟩
  simp [convert, run_underlying e1, run_underlying e2]
 ·cases h
theorem a11 {P : Program} {β : Place} {t : TypeId} {x mx v : Value} {f : Nat} (hx : VRel β x mx) (h : Wj P t x f = some v) (w : World) : ∃ mv, (Instr.field t mx f).run P w = .ok mv w ∧ VRel β v mv := by
 unfold Wj at h
 split at h
 ·rename_i fs cs hu
  obtain ⟨mcs, rfl, r⟩ := VRel.agg_iff.1 hx
  split at h
  ·rename_i fd hf
   obtain ⟨mv, e, rv⟩ := jk r h w
   exact ⟨mv, by simp [Instr.field, run_underlying hu, hf, asAgg, e], rv⟩
  ·cases h
 ·cases h
theorem VRel.ptr_inv {β : Place} {b o : Nat} {mv : Value} (h : VRel β (.pointer (some ⟨b, o, none⟩)) mv) : ∃ m s, β b = some (m, s) ∧ mv = .pointer (some ⟨m, s.off + o, none⟩) := by
 cases h with
 | ptr h => exact ⟨_, _, h, rfl⟩
theorem vn {P : Program} {β : Place} {t : TypeId} {x mx v : Value} {f : Nat} (hx : VRel β x mx) (h : jh P t x f = some v) (w : World) : ∃ mv, (Instr.fieldAt t mx f).run P w = .ok mv w ∧ VRel β v mv := by
 unfold jh at h
 split at h
 ·rename_i fs b o hu
  obtain ⟨m, s, hb, rfl⟩ := hx.ptr_inv
  split at h
  ·rename_i fd hf
   split at h
   ·rename_i n hs
    split at h
    ·cases h
    ·rename_i hn
     cases h
     refine ⟨_, ?_, .ptr hb⟩
     have hrs := zJ hs w
     simp only [Instr.fieldAt, Sem.run_bind, run_underlying hu, Result.andThen_ok, hf, Instr.sureAddr, Sem.run_pure, fieldPlace, hrs, if_neg hn, Addr.add_lit, Nat.add_assoc]
   ·cases h
  ·cases h
 ·cases h
theorem QY {v : Value} {i : Nat} (h : kR v = some i) : ∃ k, v = .int k (i : Int) := by
 cases v with
 | int k j =>
  simp only [kR] at h
  split at h
  ·rename_i h0
   cases h
   exact ⟨k, by congr 1; omega⟩
  ·cases h
 | _ => simp [kR] at h
theorem VRel.slice_inv {β : Place} {b o n c : Nat} {mv : Value} (h : VRel β (.slice (some ⟨b, o, none⟩) n c) mv) :
  (∃ m s c', β b = some (m, s) ∧ mv = .slice (some ⟨m, s.off + o, none⟩) n c' ∧ (c = unk ∨ c = qG ∨ c = c') ∧ n ≤ c' ∧ c' ≤ maxLen ∧ (c = qG ∨ c' = 0 ∨ s.off + o + c' * s.z ≤ s.T)) ∨ (n = 0 ∧ c = Sim.dud ∧ ∃ a' c', mv = .slice (some a') 0 c') ∨ (n = 0 ∧ c = 0 ∧ ∃ a', mv = .slice (some a') 0 0) := by
 cases h with
 | slice h hc hn hm hr => exact .inl ⟨_, _, _, h, rfl, hc, hn, hm, hr⟩
 | dud => exact .inr (.inl ⟨rfl, rfl, _, _, rfl⟩)
 | zero => exact .inr (.inr ⟨rfl, rfl, _, rfl⟩)
theorem vt {P : Program} {β : Place} {t : TypeId} {x i mx mi v : Value} (hx : VRel β x mx) (hi : VRel β i mi) (h : ky P t x i = some v) (w : World) : ∃ mv, (Instr.indexAt t mx mi).run P w = .ok mv w ∧ VRel β v mv := by
 unfold ky at h
 split at h
 ·rename_i e b o n c j hu hj
  obtain ⟨k, rfl⟩ := QY (hi.idx hj)
  split at h
  ·rename_i s hs
   split at h
   ·rename_i hlt
    cases h
    rcases hx.slice_inv with ⟨m, s', c', hb, rfl, hc, hn, hm, _⟩ | ⟨rfl, _⟩ | ⟨rfl, _⟩
    ·refine ⟨_, ?_, .ptr hb⟩
     have he : P.elem t = e := by simp [Program.elem, hu]
     rw [run_indexAt_slice w t _ n c' k j (by rw [he]; exact hu), he, zJ hs w, if_pos ⟨by omega, by omega⟩]
     simp [Addr.add_lit, Nat.add_assoc]
    ·omega
    ·omega
   ·cases h
  ·cases h
 ·rename_i len e b o j hu hj
  obtain ⟨k, rfl⟩ := QY (hi.idx hj)
  obtain ⟨m, s', hb, rfl⟩ := hx.ptr_inv
  split at h
  ·rename_i s hs
   split at h
   ·rename_i hlt
    cases h
    refine ⟨_, ?_, .ptr hb⟩
    have he : P.elem t = e := by simp [Program.elem, hu]
    have hl : P.arrayLen t = len := by simp [Program.arrayLen, hu]
    rw [run_indexAt_array w t _ k j (by rw [he, hl]; exact hu), he, hl, zJ hs w, if_pos ⟨by omega, by omega⟩]
    simp [Addr.add_lit, Nat.add_assoc]
   ·cases h
  ·cases h
 ·cases h
theorem a1W {P : Program} {β : Place} {t : TypeId} {x i mx mi v : Value} (hx : VRel β x mx) (hi : VRel β i mi) (h : ZT P t x i = some v) (w : World) : ∃ mv, (Instr.index t mx mi).run P w = .ok mv w ∧ VRel β v mv := by
 unfold ZT at h
 split at h
 ·rename_i len e cs j hu hj
  obtain ⟨k, rfl⟩ := QY (hi.idx hj)
  obtain ⟨mcs, rfl, r⟩ := VRel.agg_iff.1 hx
  split at h
  ·rename_i s hs
   split at h
   ·rename_i hlt
    obtain ⟨mv, e1, rv⟩ := jk r h w
    refine ⟨mv, ?_, rv⟩
    have h1 : (0 : Int) ≤ (j : Int) ∧ (j : Int) < (len : Int) := ⟨by omega, by omega⟩
    simp only [Instr.index, asIntOf, Sem.run_bind, Sem.run_pure, Result.andThen_ok, run_underlying hu, if_pos h1, zJ hs w, Int.toNat_natCast, e1]
   ·cases h
  ·cases h
 ·rename_i s j hu hj
  obtain ⟨k, rfl⟩ := QY (hi.idx hj)
  cases hx
  cases hb : s[j]? with
  | none => simp [hb] at h
  | some b =>
   simp [hb] at h
   subst h
   refine ⟨_, ?_, .int _ _⟩
   have h1 : (0 : Int) ≤ (j : Int) := by omega
   simp only [Instr.index, asIntOf, Sem.run_bind, Sem.run_pure, Result.andThen_ok, run_underlying hu, if_pos h1, Int.toNat_natCast, hb]
 ·cases h
theorem Yd {P : Program} {β : Place} {E : Nat → Option Nat} {t : TypeId} {x mx v : Value} {lo hi mm mlo mhi mmm : Option Value} (hx : VRel β x mx) (hlo : ORels β lo mlo) (hhi : ORels β hi mhi) (hmm : ORels β mm mmm)
  (hE : ∀ b m (s : Sh) q, β b = some (m, s) → E b = some q → s.z = q)
  (h : z9 P E t x lo hi mm = some v) (w : World) : ∃ mv, (Instr.sliceAt t mx mlo mhi mmm).run P w = .ok mv w ∧ VRel β v mv := by
 unfold z9 at h
 split at h
 ·rename_i s hu
  cases hx
  split at h
  ·cases h
  ·rename_i hn
   cases hmm with
   | some _ => simp at hn
   | none =>
    split at h
    ·rename_i l hh om hb
     cases h
     have := (wS (P := P) (b := false) hlo hhi .none (Nat.le_refl _) hb w).1
     refine ⟨_, ?_, .string _⟩
     simp [Instr.sliceAt, Instr.slice, run_underlying hu, this]
    ·cases h
 ·rename_i n e b o hu
  obtain ⟨m, s', hb', rfl⟩ := hx.ptr_inv
  split at h
  ·rename_i s l hh om hs hb
   split at h
   ·rename_i hmax
    obtain ⟨hrb, hle⟩ := wS (P := P) (b := false) hlo hhi hmm (Nat.le_refl _) hb w
    have hbb : hh ≤ om.getD n := by
     unfold qE at hb
     repeat' split at hb
     all_goals first | (cases hb; first | (simp; done) | (simp; omega) | omega) | (cases hb; done)
    have hrun : (Instr.sliceAt t (.pointer (some ⟨m, s'.off + o, none⟩)) mlo mhi mmm).run P w = .ok (.slice (some ⟨m, if om.getD n = l then s'.off + o else s'.off + o + l * s, none⟩) (hh - l) (om.getD n - l)) w := by
     simp only [Instr.sliceAt, Sem.run_bind, run_underlying hu, Result.andThen_ok, Instr.sureAddr, Sem.run_pure, hrb, zJ hs w, Addr.add_lit]
     split <;> simp_all
    refine ⟨_, hrun, ?_⟩
    split at h
    ·rename_i hq
     cases h
     rw [if_pos hq]
     have h0 : om.getD n - l = 0 := by omega
     rw [h0]
     exact .slice hb' (.inr (.inr rfl)) (by omega) (Nat.zero_le _) (.inr (.inl rfl))
    ·rename_i hq
     cases h
     rw [if_neg hq]
     have := VRel.slice (β := β) (o := o + l * s) (n := hh - l) (c := qG) (c' := om.getD n - l) hb' (.inr (.inl rfl)) (by omega) (by omega) (.inl rfl)
     rwa [← Nat.add_assoc] at this
   ·cases h
  ·cases h
 ·rename_i e hu
  cases hx
  split at h
  ·rename_i s p hs hb
   cases h
   obtain ⟨l, hh, om⟩ := p
   obtain ⟨hrb, hle⟩ := wS (P := P) (b := true) hlo hhi hmm (Nat.le_refl 0) hb w
   have hbb : hh ≤ 0 ∧ om.getD 0 ≤ 0 := by
    unfold qE at hb
    repeat' split at hb
    all_goals first | (cases hb; first | (simp; done) | (simp; omega) | omega) | (cases hb; done)
   have : l = 0 ∧ hh = 0 ∧ om.getD 0 = 0 := ⟨by omega, by omega, by omega⟩
   obtain ⟨rfl, rfl, h3⟩ := this
   refine ⟨.slice none 0 0, ?_, .nilslice⟩
   simp only [Instr.sliceAt, Instr.slice, Sem.run_bind, run_underlying hu, Result.andThen_ok, hrb, zJ hs w, h3]
   simp
  ·cases h
 ·rename_i e b o n c hu
  split at h
  ·rename_i s l hh om hs hb
   rcases hx.slice_inv with ⟨m, s', c', hb', rfl, hc, hn, hm, hroom⟩ | ⟨rfl, rfl, a', c', rfl⟩ | ⟨rfl, rfl, a', rfl⟩
   ·have hdc : c ≠ dud := by
     rintro rfl
     rcases hc with hc | hc | hc
     ·simp [dud, unk] at hc
     ·simp [dud, qG] at hc
     ·simp only [dud, maxLen] at hc hm; omega
    have hcu' : c' ≠ unk ∧ c' ≠ qG := by constructor <;> (rintro rfl; simp only [unk, qG, maxLen] at hm; omega)
    have hsure : qP n c ≤ c' := by
     unfold qP
     rcases hc with rfl | rfl | rfl
     ·simp; exact hn
     ·simp [qG, unk]; exact hn
     ·(repeat' split) <;> omega
    obtain ⟨hrb, hle⟩ := wS (P := P) (b := true) hlo hhi hmm hsure hb w
    have hbb : hh ≤ om.getD c' ∧ om.getD c' ≤ c' := by
     unfold qE at hb
     repeat' split at hb
     all_goals first | (cases hb; first | (simp; done) | (simp; omega) | omega) | (cases hb; done)
    have hrun : (Instr.sliceAt t (.slice (some ⟨m, s'.off + o, none⟩) n c') mlo mhi mmm).run P w = .ok (.slice (some ⟨m, if om.getD c' = l then s'.off + o else s'.off + o + l * s, none⟩) (hh - l) (om.getD c' - l)) w := by
     simp only [Instr.sliceAt, Instr.slice, Sem.run_bind, run_underlying hu, Result.andThen_ok, hrb, zJ hs w]
     split <;> simp_all [Addr.add_lit]
    refine ⟨_, hrun, ?_⟩
    rw [if_neg hdc] at h
    split at h
    ·cases h
    ·rename_i hEE
     have room : ∀ k, k ≤ c' → l ≤ k → c ≠ qG → (k - l = 0 ∨ s'.off + (o + l * s) + (k - l) * s'.z ≤ s'.T) := by
      intro k hk hlk hcn
      by_cases h00 : n = 0 ∧ c = 0
      ·have : c' = 0 := by
        rcases hc with hc | hc | hc
        ·rw [h00.2] at hc; simp [unk] at hc
        ·exact absurd hc hcn
        ·omega
       left; omega
      have hz : s'.z = s := by
       refine hE b m s' s hb' ?_
       by_cases hq : E b = some s
       ·exact hq
       ·exact absurd ⟨hcn, h00, hq⟩ hEE
      rcases hroom with hroom | hroom | hroom
      ·exact absurd hroom hcn
      ·left; omega
      ·right
       rw [hz] at hroom ⊢
       have h1 : l * s + (k - l) * s = k * s := by rw [← Nat.add_mul]; congr 1; omega
       have h2 : k * s ≤ c' * s := Nat.mul_le_mul_right _ hk
       omega
     have shifted : ∀ q c2 c3, (c2 = unk ∨ c2 = qG ∨ c2 = c3) → q ≤ c3 → c3 ≤ maxLen → (c2 = qG ∨ c3 = 0 ∨ s'.off + (o + l * s) + c3 * s'.z ≤ s'.T) → VRel β (.slice (some ⟨b, o + l * s, none⟩) q c2) (.slice (some ⟨m, s'.off + o + l * s, none⟩) q c3) := fun q c2 c3 h1 h2 h3 h4 => by
      have := VRel.slice (β := β) (o := o + l * s) hb' h1 h2 h3 h4
      rwa [← Nat.add_assoc] at this
     split at h
     ·rename_i mx
      simp only [Option.getD_some] at hbb ⊢
      split at h
      ·rename_i hq
       cases h
       rw [if_pos hq]
       have h0 : mx - l = 0 := by omega
       rw [h0]
       exact .slice hb' (.inr (.inr rfl)) (by omega) (Nat.zero_le _) (.inr (.inl rfl))
      ·rename_i hq
       rw [if_neg hq]
       split at h
       ·rename_i hcx
        cases h
        obtain ⟨hcn, rfl⟩ := hcx
        exact .exact (shifted _ _ _ (.inr (.inl rfl)) (by omega) (by omega) (.inl rfl))
       ·cases h
        by_cases hcn : c = qG
        ·rw [if_pos hcn]
         exact shifted _ _ _ (.inr (.inl rfl)) (by omega) (by omega) (.inl rfl)
        ·rw [if_neg hcn]
         exact shifted _ _ _ (.inr (.inr rfl)) (by omega) (by omega) (.inr (room mx hbb.2 (by omega) hcn))
     ·simp only [Option.getD_none] at hbb ⊢
      split at h
      ·rename_i hcu
       have hsn : qP n c = n := by
        unfold qP
        rcases hcu with rfl | rfl
        ·simp
        ·simp [qG, unk]
       split at h
       ·rename_i hln
        cases h
        rw [if_neg (by omega)]
        refine shifted _ _ _ (hcu.imp id .inl) (by omega) (by omega) ?_
        by_cases hcn : c = qG
        ·exact .inl hcn
        ·exact .inr (room c' (Nat.le_refl _) (by omega) hcn)
       ·rename_i hln
        cases h
        have : hh - l = 0 := by
         rw [hsn] at hb
         unfold qE at hb
         repeat' split at hb
         all_goals first | (cases hb; omega) | (cases hb; done)
        rw [this]
        exact .dud
      ·rename_i hcu
       have hcc : c = c' := by
        rcases hc with hc | hc | hc
        ·exact absurd (.inl hc) hcu
        ·exact absurd (.inr hc) hcu
        ·exact hc
       subst hcc
       split at h
       ·rename_i hq
        cases h
        rw [if_pos hq]
        have h0 : c - l = 0 := by omega
        rw [h0]
        exact .slice hb' (.inr (.inr rfl)) (by omega) (Nat.zero_le _) (.inr (.inl rfl))
       ·rename_i hq
        cases h
        rw [if_neg hq]
        exact shifted _ _ _ (.inr (.inr rfl)) (by omega) (by omega) (.inr (room c (Nat.le_refl _) (by omega) (fun e => hcu (.inr e))))
   ·have hsure : qP 0 Sim.dud ≤ c' := by simp [qP, Sim.dud, unk, qG]
    obtain ⟨hrb, hle⟩ := wS (P := P) (b := true) hlo hhi hmm hsure hb w
    have hbb : hh = 0 := by
     have : qP 0 Sim.dud = 0 := by simp [qP, Sim.dud, unk, qG]
     rw [this] at hb
     unfold qE at hb
     repeat' split at hb
     all_goals first | (cases hb; omega) | (cases hb; done)
    subst hbb
    have hl0 : l = 0 := by omega
    subst hl0
    rw [if_pos rfl] at h
    split at h
    ·rename_i mx
     cases h
     have hm0 : mx = 0 := by
      have : qP 0 Sim.dud = 0 := by simp [qP, Sim.dud, unk, qG]
      rw [this] at hb
      unfold qE at hb
      repeat' split at hb
      all_goals first | (cases hb; omega) | (cases hb; done)
     subst hm0
     refine ⟨.slice (some a') 0 0, ?_, .zero⟩
     simp only [Instr.sliceAt, Instr.slice, Sem.run_bind, run_underlying hu, Result.andThen_ok, hrb, zJ hs w]
     simp [Addr.add_zero']
    ·cases h
     refine ⟨.slice (some a') 0 c', ?_, .dud⟩
     simp only [Instr.sliceAt, Instr.slice, Sem.run_bind, run_underlying hu, Result.andThen_ok, hrb, zJ hs w]
     simp [Addr.add_zero']
   ·have hs0 : qP 0 0 = 0 := by simp [qP, Sim.dud, unk, qG]
    obtain ⟨hrb, hle⟩ := wS (P := P) (b := true) hlo hhi hmm (c' := 0) (by rw [hs0]; exact Nat.le_refl _) hb w
    rw [hs0] at hb
    have hbb : hh = 0 ∧ om.getD 0 = 0 := by
     unfold qE at hb
     repeat' split at hb
     all_goals first | (cases hb; first | (simp; done) | (simp; omega) | omega) | (cases hb; done)
    obtain ⟨rfl, hom⟩ := hbb
    have hl0 : l = 0 := by omega
    subst hl0
    rw [if_neg (by simp [Sim.dud])] at h
    split at h
    ·cases h
    ·have hv : v = .slice (some ⟨b, o, none⟩) 0 0 := by
      split at h
      ·rename_i mx
       simp only [Option.getD_some] at hom
       subst hom
       simp at h
       exact h.symm
      ·simp [unk, qG] at h
       exact h.symm
     subst hv
     refine ⟨.slice (some a') 0 0, ?_, .zero⟩
     simp only [Instr.sliceAt, Instr.slice, Sem.run_bind, run_underlying hu, Result.andThen_ok, hrb, zJ hs w, hom]
     simp
  ·cases h
 ·cases h
open Go.RowKit
theorem a1O {β : Place} : ∀ {l l' : List Value}, VRels β l l' → ∀ (k off : Nat) (cs ms : Array Value), VRels β cs.toList ms.toList →
  VRels β ((l.zipIdx k).foldl (fun cs (p : Value × Nat) => cs.setIfInBounds (off + p.2) p.1) cs).toList ((l'.zipIdx k).foldl (fun cs (p : Value × Nat) => cs.setIfInBounds (off + p.2) p.1) ms).toList := by
 intro l l' h
 induction h with
 | nil => intro k off cs ms hr; simpa using hr
 | cons h t ih =>
  intro k off cs ms hr
  simp only [List.zipIdx_cons, List.foldl_cons]
  refine ih (k + 1) off _ _ ?_
  simpa using hr.set h (off + k)
inductive PRels (β : Place) : List (Nat × Value) → List (Nat × Value) → Prop
 | nil : PRels β [] []
 | cons {i : Nat} {v v' : Value} {l l' : List (Nat × Value)} (h : VRel β v v') (t : PRels β l l') : PRels β ((i, v) :: l) ((i, v') :: l')
theorem xb {β : Place} {place : Nat → Option (Nat × Nat)} : ∀ {ps ms : List (Nat × Value)}, PRels β ps ms → ∀ {cs mcs r : Array Value}, VRels β cs.toList mcs.toList → Instr.fill place cs ps = some r →
  ∃ r', Instr.fill place mcs ms = some r' ∧ VRels β r.toList r'.toList := by
 intro ps ms h
 induction h with
 | nil => intro cs mcs r hr e; simp [Instr.fill] at e; subst e; exact ⟨mcs, rfl, hr⟩
 | @cons i v v' l l' h t ih =>
  intro cs mcs r hr e
  have hs : mcs.size = cs.size := by have := hr.length; simpa using this.symm
  have hv : v'.cells.size = v.cells.size := by have := h.cells.length; simpa using this.symm
  unfold Instr.fill at e ⊢
  cases hp : place i with
  | none => simp [hp] at e
  | some p =>
   obtain ⟨off, size⟩ := p
   simp only [hp] at e ⊢
   rw [hs, hv]
   split at e
   ·cases e
   ·rename_i hc
    rw [if_neg hc]
    refine ih ?_ e
    have := a1O h.cells 0 off cs mcs hr
    rw [← Array.foldl_toList, ← Array.foldl_toList]
    simpa using this
def a3p (v : Value) : Bool := v.cells.toList.all qF
theorem VRels.const {β : Place} : ∀ {l : List Value}, l.all qF = true → VRels β l l
 | [], _ => .nil
 | v :: l, h => by
  simp only [List.all_cons, Bool.and_eq_true] at h
  exact .cons (VRel.const h.1) (VRels.const h.2)
def Wb (P : Program) (t : TypeId) : Bool :=
 match P.info? t with
 | some i => match i.zero with | some z => a3p z | none => false
 | none => false
def QH (P : Program) (t : TypeId) (parts : List (Nat × Value)) : Option Value :=
 if Wb P t then (P.built t parts).map .agg else none
theorem a2d {P : Program} {β : Place} {t : TypeId} {ps : List (Nat × Value)} {ms : Array (Nat × Value)} {v : Value} (hr : PRels β ps ms.toList) (h : QH P t ps = some v) (w : World) :
  ∃ mv, (Instr.build t ms).run P w = .ok mv w ∧ VRel β v mv := by
 unfold QH at h
 split at h
 ·rename_i hz
  cases hb : P.built t ps with
  | none => simp [hb] at h
  | some cells =>
   simp [hb] at h
   subst h
   have : ∃ r', P.built t ms.toList = some r' ∧ VRels β cells.toList r'.toList := by
    unfold Wb at hz
    unfold Program.built at hb ⊢
    cases hi : P.info? t with
    | none => simp [hi] at hb
    | some it =>
     simp only [hi] at hz hb ⊢
     cases hzz : it.zero with
     | none => simp [hzz] at hz
     | some z =>
      simp only [hzz] at hz
      cases hu : P.underlying t with
      | none => simp [hu] at hb
      | some D =>
       simp only [hu, hzz] at hb ⊢
       cases D <;> try (simp at hb; done)
       case array n e =>
        cases he : P.info? e with
        | none => simp [he] at hb
        | some ie =>
         simp only [he, hzz] at hb ⊢
         exact xb hr (VRels.const hz) hb
       case struct fs =>
        cases hp : fs.toList.mapM (fun f => (P.info? f.type).map fun i => (f.offset, i.size)) with
        | none => simp [hp] at hb
        | some places =>
         simp only [hp, hzz] at hb ⊢
         exact xb hr (VRels.const hz) hb
   obtain ⟨r', e, hr'⟩ := this
   exact ⟨_, run_build w t ms r' e, VRel.agg_iff.2 ⟨_, rfl, hr'⟩⟩
 ·cases h
abbrev Rho := Operand → Option Value
def QM (β : Place) (ρ : Rho) (μ : Operand → Value) : Prop := ∀ x v, ρ x = some v → VRel β v (μ x)
def kC (ρ : Rho) : List Operand → Option (List Value)
 | [] => some []
 | x :: xs => match ρ x, kC ρ xs with
  | some v, some vs => some (v :: vs)
  | _, _ => none
theorem kI {β : Place} {ρ : Rho} {μ : Operand → Value} (hρ : QM β ρ μ) : ∀ {xs : List Operand} {vs : List Value}, kC ρ xs = some vs → VRels β vs (xs.map μ)
 | [], vs, h => by cases h; exact .nil
 | x :: xs, vs, h => by
  unfold kC at h
  cases hx : ρ x with
  | none => simp [hx] at h
  | some v =>
   cases hr : kC ρ xs with
   | none => simp [hx, hr] at h
   | some r =>
    simp only [hx, hr] at h
    cases h
    exact .cons (hρ x v hx) (kI hρ hr)
def K4 (ρ : Rho) : List (Nat × Operand) → Option (List (Nat × Value))
 | [] => some []
 | (i, x) :: xs => match ρ x, K4 ρ xs with
  | some v, some vs => some ((i, v) :: vs)
  | _, _ => none
theorem XJ {β : Place} {ρ : Rho} {μ : Operand → Value} (hρ : QM β ρ μ) : ∀ {xs : List (Nat × Operand)} {vs : List (Nat × Value)}, K4 ρ xs = some vs → PRels β vs (xs.map fun p => (p.1, μ p.2))
 | [], vs, h => by cases h; exact .nil
 | (i, x) :: xs, vs, h => by
  unfold K4 at h
  cases hx : ρ x with
  | none => simp [hx] at h
  | some v =>
   cases hr : K4 ρ xs with
   | none => simp [hx, hr] at h
   | some r =>
    simp only [hx, hr] at h
    cases h
    exact .cons (hρ x v hx) (XJ hρ hr)
def jn (ρ : Rho) : Option Operand → Option (Option Value)
 | none => some none
 | some x => (ρ x).map some
theorem Z3 {β : Place} {ρ : Rho} {μ : Operand → Value} (hρ : QM β ρ μ) {x : Option Operand} {v : Option Value} (h : jn ρ x = some v) : ORels β v (x.map μ) := by
 cases x with
 | none => cases h; exact .none
 | some x =>
  simp only [jn] at h
  cases hx : ρ x with
  | none => simp [hx] at h
  | some v => simp [hx] at h; subst h; exact .some (hρ x v hx)
def a6z : List Value → Option Value
 | [.int k a, .int k' b] => if k = k' then some (.int k (if b < a then b else a)) else none
 | [.int k a, .int k' b, .int k'' c] => if k = k' ∧ k = k'' then some (.int k (if c < (if b < a then b else a) then c else (if b < a then b else a))) else none
 | _ => none
def a6t : List Value → Option Value
 | [.int k a, .int k' b] => if k = k' then some (.int k (if b > a then b else a)) else none
 | [.int k a, .int k' b, .int k'' c] => if k = k' ∧ k = k'' then some (.int k (if c > (if b > a then b else a) then c else (if b > a then b else a))) else none
 | _ => none
def a8t (P : Program) (t : TypeId) : Value → Option Value
 | .string s => match P.underlying t with | some .string => some (goInt s.size) | _ => none
 | .slice _ n _ => match P.underlying t with | some (.slice _) => some (goInt n) | _ => none
 | .agg _ => match P.underlying t with | some (.array n _) => some (goInt n) | _ => none
 | _ => none
def w5 (P : Program) (b : Builtin) (ts : List TypeId) (vs : List Value) : Option Value :=
 match b with
 | .min => a6z vs
 | .max => a6t vs
 | .len => match ts, vs with | [t], [v] => a8t P t v | _, _ => none
 | _ => none
def z8 (P : Program) (o : Op) (ρ : Rho) : Option Value :=
 match o with
 | .move x => ρ x
 | .assign x => ρ x
 | .pick c a b => match ρ c with
  | some (.bool t) => if t then ρ a else ρ b
  | _ => none
 | .build t parts => match K4 ρ parts.toList with
  | some ps => QH P t ps
  | none => none
 | .field t x f => match ρ x with
  | some v => Wj P t v f
  | none => none
 | .fieldAddr t x f => match ρ x with
  | some v => jh P t v f
  | none => none
 | .unOp op _ x => match ρ x with
  | some v => unV op v
  | none => none
 | .binOp op t x y _ => match ρ x, ρ y with
  | some a, some b => qZ P op t a b
  | _, _ => none
 | .convert s d x => match ρ x with
  | some v => vS P s d v
  | none => none
 | .makeFunc fn first cap => if Fn.plain fn then match kC ρ first.toList, kC ρ cap.toList with
  | some a, some b => some (.func fn a.toArray b.toArray)
  | _, _ => none
  else none
 | .indexAddr t x i => match ρ x, ρ i with
  | some a, some b => ky P t a b
  | _, _ => none
 | .index t x i => match ρ x, ρ i with
  | some a, some b => ZT P t a b
  | _, _ => none
 | .extract x i => match ρ x with
  | some (.tuple vs) => vs[i]?
  | _ => none
 | .nilCheck x => match ρ x with
  | some (.pointer (some a)) => some (.pointer (some a))
  | _ => none
 | .call { callee := .builtin b, args := args, argTypes := ts } => match kC ρ args.toList with
  | some vs => w5 P b ts.toList vs
  | none => none
 | _ => none
theorem a85 {P : Program} {β : Place} {vs : List Value} {ms : List Value} {v : Value} (hr : VRels β vs ms) (h : a6z vs = some v) (ts : Array TypeId) (ty : TypeId) (w : World) : (Builtin.min_ ts ty ms.toArray).run P w = .ok v w ∧ qF v = true := by
 unfold a6z at h
 split at h
 ·cases hr with
  | cons h1 t1 => cases t1 with
   | cons h2 t2 =>
    cases t2; cases h1; cases h2
    split at h
    ·cases h; exact ⟨by simp [Builtin.min_, Builtin.min2], rfl⟩
    ·cases h
 ·cases hr with
  | cons h1 t1 => cases t1 with
   | cons h2 t2 => cases t2 with
    | cons h3 t3 =>
     cases t3; cases h1; cases h2; cases h3
     split at h
     ·cases h; exact ⟨by simp [Builtin.min_, Builtin.min2], rfl⟩
     ·cases h
 ·cases h
theorem a6r {P : Program} {β : Place} {vs : List Value} {ms : List Value} {v : Value} (hr : VRels β vs ms) (h : a6t vs = some v) (ts : Array TypeId) (ty : TypeId) (w : World) : (Builtin.max_ ts ty ms.toArray).run P w = .ok v w ∧ qF v = true := by
 unfold a6t at h
 split at h
 ·cases hr with
  | cons h1 t1 => cases t1 with
   | cons h2 t2 =>
    cases t2; cases h1; cases h2
    split at h
    ·cases h; exact ⟨by simp [Builtin.max_, Builtin.max2], rfl⟩
    ·cases h
 ·cases hr with
  | cons h1 t1 => cases t1 with
   | cons h2 t2 => cases t2 with
    | cons h3 t3 =>
     cases t3; cases h1; cases h2; cases h3
     split at h
     ·cases h; exact ⟨by simp [Builtin.max_, Builtin.max2], rfl⟩
     ·cases h
 ·cases h
theorem Xc {P : Program} {β : Place} {t : TypeId} {x mx v : Value} (hx : VRel β x mx) (h : a8t P t x = some v) (ty : TypeId) (w : World) : (Builtin.len_ #[t] ty #[mx]).run P w = .ok v w ∧ qF v = true := by
 unfold a8t at h
 split at h
 ·cases hx
  split at h
  ·rename_i hu; cases h; exact ⟨by simp [Builtin.len_, run_underlying hu], rfl⟩
  ·cases h
 ·split at h
  ·rename_i hu; cases h
   refine ⟨?_, rfl⟩
   cases hx <;> simp [Builtin.len_, run_underlying hu]
  ·cases h
 ·obtain ⟨mxs, rfl, _⟩ := VRel.agg_iff.1 hx
  split at h
  ·rename_i hu; cases h; exact ⟨by simp [Builtin.len_, run_underlying hu], rfl⟩
  ·cases h
 ·cases h
theorem Ku {P : Program} {β : Place} {ρ : Rho} {μ : Operand → Value} {o : Oper} {v : Value} (hρ : QM β ρ μ) (h : z8 P o.op ρ = some v) (w : World) :
  ∃ mv, (execOp μ o).run P w = .ok (.value mv) w ∧ VRel β v mv := by
 unfold z8 at h
 unfold execOp
 split at h
 ·rename_i x he; rw [he]; exact ⟨_, rfl, hρ _ _ h⟩
 ·rename_i x he; rw [he]; exact ⟨_, rfl, hρ _ _ h⟩
 ·rename_i c a b he
  rw [he]
  split at h
  ·rename_i t hc
   have := hρ _ _ hc
   generalize hm : μ c = mc at this
   cases this
   cases t
   ·exact ⟨_, by simp [hm, asBool], hρ _ _ h⟩
   ·exact ⟨_, by simp [hm, asBool], hρ _ _ h⟩
  ·cases h
 ·rename_i t parts he
  rw [he]
  split at h
  ·rename_i ps hp
   have hr := XJ hρ hp
   obtain ⟨mv, e, r⟩ := a2d (ms := parts.map fun (p : Nat × Operand) => (p.1, μ p.2)) (by simpa using hr) h w
   exact ⟨mv, by simp [e], r⟩
  ·cases h
 ·rename_i t x f he
  rw [he]
  split at h
  ·rename_i a ha
   obtain ⟨mv, e, r⟩ := a11 (hρ _ _ ha) h w
   exact ⟨mv, by simp [e], r⟩
  ·cases h
 ·rename_i t x f he
  rw [he]
  split at h
  ·rename_i a ha
   obtain ⟨mv, e, r⟩ := vn (hρ _ _ ha) h w
   exact ⟨mv, by simp [e], r⟩
  ·cases h
 ·rename_i op t x he
  rw [he]
  split at h
  ·rename_i a ha
   obtain ⟨e, r⟩ := abG (P := P) (hρ _ _ ha) h w
   exact ⟨v, by simp [e], r⟩
  ·cases h
 ·rename_i op t x y t2 he
  rw [he]
  split at h
  ·rename_i a b ha hb
   obtain ⟨e, r⟩ := a7i (P := P) (hρ _ _ ha) (hρ _ _ hb) h x y w
   exact ⟨v, by rw [Sem.run_bind, e]; rfl, VRel.const r⟩
  ·cases h
 ·rename_i s d x he
  rw [he]
  split at h
  ·rename_i a ha
   obtain ⟨e, r⟩ := vW (P := P) (hρ _ _ ha) h w
   exact ⟨v, by simp [e], r⟩
  ·cases h
 ·rename_i fn first cap he
  rw [he]
  split at h
  ·rename_i hf
   split at h
   ·rename_i a b ha hb
    cases h
    refine ⟨_, rfl, (VRel.func_iff hf).2 ⟨_, _, rfl, ?_, ?_⟩⟩
    ·simpa using kI hρ ha
    ·simpa using kI hρ hb
   ·cases h
  ·cases h
 ·rename_i t x i he
  rw [he]
  split at h
  ·rename_i a b ha hb
   obtain ⟨mv, e, r⟩ := vt (hρ _ _ ha) (hρ _ _ hb) h w
   exact ⟨mv, by simp [e], r⟩
  ·cases h
 ·rename_i t x i he
  rw [he]
  split at h
  ·rename_i a b ha hb
   obtain ⟨mv, e, r⟩ := a1W (hρ _ _ ha) (hρ _ _ hb) h w
   exact ⟨mv, by simp [e], r⟩
  ·cases h
 ·rename_i x i he
  rw [he]
  split at h
  ·rename_i vs hv
   obtain ⟨ms, hm, r⟩ := VRel.tuple_iff.1 (hρ _ _ hv)
   obtain ⟨mv, e, rv⟩ := r.get (i := i) (v := v) (by simpa using h)
   exact ⟨mv, by simp [hm, Instr.extract, show ms[i]? = some mv by simpa using e], rv⟩
  ·cases h
 ·rename_i x he
  rw [he]
  split at h
  ·rename_i a ha
   cases h
   have := hρ _ _ ha
   generalize hm : μ x = mx at this
   cases this with
   | ptr hb => exact ⟨_, by simp [hm], .ptr hb⟩
  ·cases h
 ·rename_i b args ts he
  rw [he]
  split at h
  ·rename_i vs hv
   have hr := kI hρ hv
   have key : ∀ {res : Value}, qF res = true → (builtin b ts o.type (args.map fun | .const _ => true | _ => false) (args.map μ)).run P w = .ok (.value res) w → ∃ mv, ((do let d ← resolve μ { callee := .builtin b, args := args, argTypes := ts } o.type; invoke d.target d.args : Sem Next)).run P w = .ok (.value mv) w ∧ VRel β res mv := by
    intro res hres hb
    refine ⟨res, ?_, VRel.const hres⟩
    simp only [resolve, Sem.run_bind, Sem.run_pure, Result.andThen_ok, invoke]
    exact hb
   unfold w5 at h
   split at h
   ·obtain ⟨e, hk⟩ := a85 (P := P) hr h ts o.type w
    refine key hk ?_
    have e' : (Builtin.min_ ts o.type (args.map μ)).run P w = .ok v w := by
     have : (args.toList.map μ).toArray = args.map μ := by apply Array.ext'; simp
     rw [← this]; exact e
    simp [builtin, e']
   ·obtain ⟨e, hk⟩ := a6r (P := P) hr h ts o.type w
    refine key hk ?_
    have e' : (Builtin.max_ ts o.type (args.map μ)).run P w = .ok v w := by
     have : (args.toList.map μ).toArray = args.map μ := by apply Array.ext'; simp
     rw [← this]; exact e
    simp [builtin, e']
   ·split at h
    ·rename_i t x hts
     cases hargs : args.toList with
     | nil => rw [hargs] at hr; cases hr
     | cons y ys =>
      rw [hargs] at hr
      cases hr with
      | cons h1 t1 =>
       cases ys with
       | cons _ _ => cases t1
       | nil =>
        obtain ⟨e, hk⟩ := Xc (P := P) h1 h o.type w
        refine key hk ?_
        have h2 : args = #[y] := by apply Array.ext'; simpa using hargs
        have h3 : ts = #[t] := by apply Array.ext'; simpa using hts
        subst h2 h3
        simp only [builtin, Sem.run_bind, List.map_toArray, List.map_cons, List.map_nil, e, Result.andThen_ok, Sem.run_pure]
    ·cases h
   ·cases h
  ·cases h
 ·cases h
open Go.RowKit
def V7 (P : Program) (t : TypeId) (h : Heap) (b i : Nat) : Option Value :=
 match h.get b with
 | some (.cells cs _ _) => wy P t cs i
 | _ => none
def kJ (P : Program) (t : TypeId) (h : Heap) : Value → Option Value
 | .pointer (some ⟨b, i, none⟩) => V7 P t h b i
 | _ => none
theorem ORel.cell {P : Program} {β : Place} {w : World} {m : Nat} {s : Sh} {cs : List Value} {e : TypeId} {rw : Bool} (h : ORel P β w m s (.cells cs e rw)) {i : Nat} {v : Value} (hi : cs[i]? = some v) :
  ∃ mv, w.cell? ⟨m, s.off + i, none⟩ = some mv ∧ VRel β v mv := by
 obtain ⟨mc, fr, te, hg, hle, hr, _⟩ := h
 obtain ⟨mv, e1, r⟩ := hr.get hi
 refine ⟨mv, ?_, r⟩
 rw [cell_of_row w m (s.off + i) mc te fr hg]
 have hlt : i < cs.length := (List.getElem?_eq_some_iff.1 hi).1
 rw [List.getElem?_take, if_pos hlt, List.getElem?_drop] at e1
 simpa using e1
theorem jM {w : World} {m : Nat} {mc : Array Value} {e : TypeId} {fr : Nat × Nat} (hg : w.heap[m]? = some (.cells mc e fr)) (p n : Nat) :
  ∀ j v, ((mc.toList.drop p).take n)[j]? = some v → w.cell? ((⟨m, p, none⟩ : Addr).add j) = some v := by
 intro j v hv
 rw [Addr.add_lit, cell_of_row w m (p + j) mc e fr hg]
 rw [List.getElem?_take] at hv
 split at hv
 ·rw [List.getElem?_drop] at hv; simpa using hv
 ·cases hv
theorem J3 {P : Program} {β : Place} {h : Heap} {w : World} {t : TypeId} {p mp v : Value} (hr : Rel P β h w) (hp : VRel β p mp) (hl : kJ P t h p = some v) :
  ∃ mv, (Instr.loadAt t mp).run P w = .ok mv w ∧ VRel β v mv := by
 unfold kJ at hl
 split at hl
 ·rename_i b i
  obtain ⟨m, s, hb, rfl⟩ := hp.ptr_inv
  unfold V7 at hl
  split at hl
  ·rename_i cs e rw hg
   have ho := hr.obj b m s _ hb hg
   unfold wy at hl
   cases hu : P.underlying t with
   | none => simp [hu] at hl
   | some D =>
    simp only [hu] at hl
    have hag := Yz hu w
    by_cases ha : U2 P t = true
    ·simp only [ha, if_true] at hl
     cases hs : szT P t with
     | none => simp [hs] at hl
     | some n =>
      simp only [hs] at hl
      split at hl
      ·rename_i hle
       cases hl
       obtain ⟨mc, fr, te, hmg, hsz, hrs, _⟩ := ho
       have hlen : ((mc.toList.drop (s.off + i)).take n).length = n := by simp; omega
       have hload := run_loadCells_list (P := P) w ⟨m, s.off + i, none⟩ ((mc.toList.drop (s.off + i)).take n) (jM hmg (s.off + i) n)
       rw [hlen] at hload
       refine ⟨_, ?_, VRel.agg_iff.2 ⟨((mc.toList.drop (s.off + i)).take n).toArray, rfl, ?_⟩⟩
       ·simp only [Instr.loadAt, Instr.sureAddr, Sem.run_bind, Sem.run_pure, Result.andThen_ok, loadVar, hag, ha, if_true, zJ hs w, hload]
       ·have h1 := (hrs.drop i).take n
        have h2 : ((List.take cs.length (List.drop s.off mc.toList)).drop i).take n = (mc.toList.drop (s.off + i)).take n := by
         rw [List.drop_take, List.take_take, List.drop_drop]
         congr 1
         omega
        rw [h2] at h1
        simpa using h1
      ·cases hl
    ·simp only [ha] at hl
     obtain ⟨mv, e1, r⟩ := ho.cell hl
     refine ⟨mv, ?_, r⟩
     have ha' : U2 P t = false := by simpa using ha
     simp only [Instr.loadAt, Instr.sureAddr, Sem.run_bind, Sem.run_pure, Result.andThen_ok, loadVar, hag, ha', Bool.false_eq_true, if_false, run_load, e1]
  ·cases hl
 ·cases hl
def qL : List Value → Nat → List Value → List Value
 | cs, _, [] => cs
 | cs, i, v :: r => qL (cs.set i v) (i + 1) r
@[simp] theorem Kq : ∀ (vs cs : List Value) (i : Nat), (qL cs i vs).length = cs.length
  | [], _, _ => rfl
  | v :: r, cs, i => by rw [qL, Kq r]; simp
def wm (P : Program) (t : TypeId) (h : Heap) (p x : Value) : Option Heap :=
 match p with
 | .pointer (some ⟨b, i, none⟩) =>
  match h.get b with
  | some (.cells cs e true) =>
   if szT P t = some x.cells.size ∧ i + x.cells.size ≤ cs.length ∧ x.cells.toList.all Value.oneCell' = true then
    some (h.set b (.cells (qL cs i x.cells.toList) e true))
   else none
  | _ => none
 | _ => none
theorem K1 {w : World} {m o : Nat} {mc : Array Value} {e : TypeId} {fr : Nat × Nat} (hg : w.heap[m]? = some (.cells mc e fr)) (v : Value) :
  (w.setCell ⟨m, o, none⟩ v).heap[m]? = some (.cells (mc.setIfInBounds o v) e fr) := by
 have hlt : m < w.heap.size := (Array.getElem?_eq_some_iff.1 hg).1
 have hv : w.heap[m] = .cells mc e fr := (Array.getElem?_eq_some_iff.1 hg).2
 unfold World.setCell
 rw [Array.getElem?_eq_getElem (by simpa using hlt), Array.getElem_modify]
 simp [hv]
theorem Rel.update {P : Program} {β : Place} {h : Heap} {w w' : World} {b m : Nat} {s : Sh} {o o' : AObj} (hr : Rel P β h w) (hb : β b = some (m, s)) (hg : h.get b = some o) (hrw : o.rw = true) (hrw' : o'.rw = true)
  (hsz : w'.heap.size = w.heap.size) (hother : ∀ k, k ≠ m → w'.heap[k]? = w.heap[k]?) (hos : w'.os = w.os) (htp : w'.tape = w.tape) (hout : w'.output = w.output) (ho : ORel P β w' m s o') (hlp : o.isLoop = true → o'.isLoop = true := by exact id) :
  Rel P β (h.set b o') w' ∧ Step β h w β (h.set b o') w' := by
 constructor
 ·refine ⟨fun c m' s' e => ?_, fun c m' s' q e g => ?_, fun c c' m' s1 s2 q q' e e' g g' hq => ?_⟩
  ·obtain ⟨h1, h2⟩ := hr.dom c m' s' e
   exact ⟨h1, by omega⟩
  ·by_cases hcb : c = b
   ·subst hcb
    rw [Heap.get_set_self hg] at g
    cases g
    rw [hb] at e
    cases e
    exact ho
   ·rw [Heap.get_set_ne h o' hcb] at g
    have hne : m' ≠ m := by
     rintro rfl
     exact hcb (hr.inj b c m' s s' o q hb e hg g hrw).symm
    have hq := hr.obj c m' s' q e g
    cases q with
    | cells cs e2 r2 =>
     obtain ⟨mc, fr, te, h1, h2⟩ := hq
     exact ⟨mc, fr, te, by rw [hother m' hne]; exact h1, h2⟩
    | map es ck =>
     obtain ⟨mes, h1, h2⟩ := hq
     exact ⟨mes, by rw [hother m' hne]; exact h1, h2⟩
    | iter =>
     obtain ⟨h0, mes, h1, h2⟩ := hq
     exact ⟨h0, mes, by rw [hother m' hne]; exact h1, h2⟩
    | striter => exact ⟨hq.1, (hother m' hne).trans hq.2⟩
    | chan =>
     obtain ⟨h0, mb, sn, rc, h1, h2⟩ := hq
     exact ⟨h0, mb, sn, rc, (hother m' hne).trans h1, h2⟩
    | loop =>
     obtain ⟨h0, fn, tm, d, h1, h2⟩ := hq
     exact ⟨h0, fn, tm, d, by rw [hother m' hne]; exact h1, h2⟩
  ·have live : ∀ c q, (h.set b o').get c = some q → ∃ q0, h.get c = some q0 ∧ q0.rw = q.rw := by
    intro c q g
    by_cases hcb : c = b
    ·subst hcb
     rw [Heap.get_set_self hg] at g
     cases g
     exact ⟨o, hg, hrw.trans hrw'.symm⟩
    ·rw [Heap.get_set_ne h o' hcb] at g
     exact ⟨q, g, rfl⟩
   obtain ⟨q0, g0, r0⟩ := live c q g
   obtain ⟨q1, g1, r1⟩ := live c' q' g'
   exact hr.inj c c' m' s1 s2 q0 q1 e e' g0 g1 (r0.trans hq)
 ·refine ⟨fun _ _ e => e, fun c hc e => ⟨e, ?_⟩, Nat.le_refl _, fun c q hc g => ?_, fun _ _ _ e e' => by simp [e] at e', hos, htp, hout, by omega, fun k hk hn => ?_, fun k r e => ?_⟩
  ·rw [Heap.get_set_ne h o' (by rintro rfl; rw [hb] at e; cases e)]
  ·by_cases hcb : c = b
   ·subst hcb
    rw [Heap.get_set_self hg] at g
    cases g
    exact ⟨o, hg, fun _ => hrw⟩
   ·rw [Heap.get_set_ne h o' hcb] at g
    exact ⟨q, g, id⟩
  ·refine hother k ?_
   rintro rfl
   exact hn ⟨b, s, o, hb, hg, hrw⟩
  ·by_cases hk : k = m
   ·subst hk
    have hl : o.isLoop = true := by
     have := hr.obj b k s o hb hg
     cases o with
     | cells => obtain ⟨_, _, _, h1, _⟩ := this; rw [e] at h1; cases h1
     | map => obtain ⟨_, h1, _⟩ := this; rw [e] at h1; cases h1
     | iter => obtain ⟨_, _, h1, _⟩ := this; rw [e] at h1; cases h1
     | striter => obtain ⟨_, h1⟩ := this; rw [e] at h1; cases h1
     | chan => obtain ⟨_, _, _, _, h1, _⟩ := this; rw [e] at h1; cases h1
     | loop => rfl
    have hl' := hlp hl
    cases o' with
    | loop => obtain ⟨_, _, _, _, h1, _⟩ := ho; exact ⟨_, h1⟩
    | cells => cases hl'
    | map => cases hl'
    | iter => cases hl'
    | striter => cases hl'
    | chan => cases hl'
   ·exact ⟨r, (hother k hk).trans e⟩
theorem xY : ∀ (vs cs : List Value) (i : Nat), i + vs.length ≤ cs.length → qL cs i vs = cs.take i ++ (vs ++ cs.drop (i + vs.length))
 | [], cs, i, h => by simp [qL]
 | v :: r, cs, i, h => by
  rw [qL, xY r _ _ (by simp at h ⊢; omega)]
  simp only [List.length_cons] at h
  rw [List.take_set, List.drop_set, if_pos (by omega)]
  rw [show i + 1 + r.length = i + (r.length + 1) by omega]
  rw [List.set_eq_take_append_cons_drop]
  rw [if_pos (by simp; omega)]
  simp [List.take_take, List.drop_take]
theorem Q6 {P : Program} {β : Place} {b m : Nat} {s : Sh} {e : TypeId} : ∀ {vs mvs : List Value}, VRels β vs mvs → ∀ (i j : Nat) {h : Heap} {w : World} {cs : List Value}, Rel P β h w → β b = some (m, s) → h.get b = some (.cells cs e true) →
  i + j + vs.length ≤ cs.length → vs.all Value.oneCell' = true →
  ∃ w', (storeCells ⟨m, s.off + i, none⟩ mvs j).run P w = .ok () w' ∧ Rel P β (h.set b (.cells (qL cs (i + j) vs) e true)) w' ∧ Step β h w β (h.set b (.cells (qL cs (i + j) vs) e true)) w' := by
 intro vs mvs hvs
 induction hvs with
 | nil =>
  intro i j h w cs hr hb hg hle hone
  refine ⟨w, by simp [storeCells], ?_⟩
  simp only [qL]
  have ho := hr.obj b m s _ hb hg
  exact hr.update hb hg rfl rfl rfl (fun _ _ => rfl) rfl rfl rfl ho
 | @cons v mv vs mvs hv t ih =>
  intro i j h w cs hr hb hg hle hone
  simp only [List.all_cons, Bool.and_eq_true, List.length_cons] at hone hle
  obtain ⟨mc, fr, te, hmg, hsz, hrs, hrw⟩ := hr.obj b m s _ hb hg
  obtain ⟨⟨hfz, hlh⟩, hte, hT, hZ⟩ := hrw rfl
  subst te
  have hcell : w.cell? ⟨m, s.off + (i + j), none⟩ = some (mc[s.off + (i + j)]'(by omega)) := by
   rw [cell_of_row w m _ mc e fr hmg]
   exact Array.getElem?_eq_getElem (by omega)
  have hfrz : w.frozen? ⟨m, s.off + (i + j), none⟩ = false := by
   have := hfz (s.off + (i + j)) (by omega)
   simp only [World.frozen?, hmg]
   simpa using this
  have hrun : (store ⟨m, s.off + (i + j), none⟩ mv .plain).run P w = .ok () (w.setCell ⟨m, s.off + (i + j), none⟩ mv) := by
   rw [run_store P w _ mv .plain (by rw [hv.oneCell]; exact hone.1), hcell]
   simp [hfrz]
  have ho' : ORel P β (w.setCell ⟨m, s.off + (i + j), none⟩ mv) m s (.cells (cs.set (i + j) v) e true) := by
   refine ⟨mc.setIfInBounds (s.off + (i + j)) mv, fr, _, K1 hmg mv, ?_, ?_, fun _ => ⟨⟨fun k hk => hfz k (by simpa using hk), hlh⟩, rfl, by simpa using hT, hZ⟩⟩
   ·simpa using hsz
   ·have := hrs.set hv (i + j)
    have e2 : (List.take (cs.set (i + j) v).length (List.drop s.off (mc.setIfInBounds (s.off + (i + j)) mv).toList)) = (List.take cs.length (List.drop s.off mc.toList)).set (i + j) mv := by
     rw [List.length_set, Array.toList_setIfInBounds, List.drop_set, if_neg (by omega), List.take_set]
     congr 1
     omega
    rw [e2]
    exact this
  obtain ⟨hr1, st1⟩ := hr.update (w' := w.setCell ⟨m, s.off + (i + j), none⟩ mv) (o' := .cells (cs.set (i + j) v) e true) hb hg rfl rfl (by simp) (fun k hk => heap_setCell_other w _ k mv hk) rfl rfl rfl ho'
  obtain ⟨w', e1, hr2, st2⟩ := ih i (j + 1) hr1 hb (Heap.get_set_self hg) (by simp; omega) hone.2
  have hset : (h.set b (.cells (cs.set (i + j) v) e true)).set b (.cells (qL (cs.set (i + j) v) (i + (j + 1)) vs) e true) = h.set b (.cells (qL cs (i + j) (v :: vs)) e true) := by
   rw [qL, show i + (j + 1) = i + j + 1 by omega]
   simp only [Heap.set, Heap.mk.injEq, true_and]
   funext c
   by_cases hc : c = b
   ·subst hc; simp [hg]
   ·simp [hc]
  rw [hset] at hr2 st2
  refine ⟨w', ?_, hr2, st1.trans hr st2⟩
  simp only [storeCells, Sem.run_bind, Addr.add_lit, Nat.add_assoc, hrun, Result.andThen_ok]
  exact e1
theorem a0Z {P : Program} {β : Place} {h h' : Heap} {w : World} {t : TypeId} {p mp x mx : Value} (hr : Rel P β h w) (hp : VRel β p mp) (hx : VRel β x mx) (hs : wm P t h p x = some h') :
  ∃ w', (Instr.storeAt t mp mx).run P w = .ok () w' ∧ Rel P β h' w' ∧ Step β h w β h' w' := by
 unfold wm at hs
 split at hs
 ·rename_i b i
  obtain ⟨m, s, hb, rfl⟩ := hp.ptr_inv
  split at hs
  ·rename_i cs e hg
   split at hs
   ·rename_i hc
    cases hs
    obtain ⟨h1, h2, h3⟩ := hc
    obtain ⟨w', e1, hr', st⟩ := Q6 (P := P) hx.cells i 0 hr hb hg (by simpa using h2) h3
    simp only [Nat.add_zero] at hr' st
    refine ⟨w', ?_, hr', st⟩
    have hsz : mx.cells.size = x.cells.size := by have := hx.cells.length; simpa using this.symm
    simp only [Instr.storeAt, Instr.sureAddr, Sem.run_bind, Sem.run_pure, Result.andThen_ok, storeVar, zJ h1 w, hsz]
    simpa using e1
   ·cases hs
  ·cases hs
 ·cases hs
def Place.add (β : Place) (b m : Nat) (s : Sh) : Place := fun c => if c = b then some (m, s) else β c
theorem Place.add_same (β : Place) (b m : Nat) (s : Sh) : β.add b m s b = some (m, s) := by simp [Place.add]
theorem Place.add_ne (β : Place) {b c : Nat} (m : Nat) (s : Sh) (h : c ≠ b) : β.add b m s c = β c := by simp [Place.add, h]
theorem Place.add_mono {β : Place} {b : Nat} (m : Nat) (s : Sh) (hb : β b = none) : ∀ c x, β c = some x → β.add b m s c = some x := by
 intro c x e
 rw [Place.add_ne _ _ _ (by rintro rfl; rw [hb] at e; cases e)]
 exact e
theorem ERels.mono {β β' : Place} (hβ : ∀ b x, β b = some x → β' b = some x) {l l' : List MapEntry} (h : ERels β l l') : ERels β' l l' := by
 induction h with
 | nil => exact .nil
 | cons hk h _ ih => exact .cons (hk.mono hβ) (h.mono hβ) ih
theorem ORel.mono {P : Program} {β β' : Place} (hβ : ∀ b x, β b = some x → β' b = some x) {w w' : World} {m : Nat} {s : Sh} (hw : w'.heap[m]? = w.heap[m]?) {o : AObj} (h : ORel P β w m s o) : ORel P β' w' m s o := by
 cases o with
 | cells cs e rw =>
  obtain ⟨mc, fr, te, h1, h3, h4, h5⟩ := h
  exact ⟨mc, fr, te, by rw [hw]; exact h1, h3, h4.mono hβ, h5⟩
 | map es ck =>
  obtain ⟨mes, h1, h2⟩ := h
  exact ⟨mes, by rw [hw]; exact h1, h2.mono hβ⟩
 | iter =>
  obtain ⟨h0, mb, h1, h2⟩ := h
  exact ⟨h0, mb, by rw [hw]; exact h1, h2.mono hβ⟩
 | striter => exact ⟨h.1, hw.trans h.2⟩
 | chan =>
  obtain ⟨h0, mb, sn, rc, h1, h2⟩ := h
  exact ⟨h0, mb, sn, rc, hw.trans h1, h2.mono hβ⟩
 | loop =>
  obtain ⟨h0, fn, tm, d, h1, h2, h3⟩ := h
  exact ⟨h0, fn, tm, d, hw.trans h1, h2, fun t v e => let ⟨mv, e1, r⟩ := h3 t v e; ⟨mv, e1, r.mono hβ⟩⟩
theorem Rel.noNext {P : Program} {β : Place} {h : Heap} {w : World} (hr : Rel P β h w) : β h.next = none := by
 cases e : β h.next with
 | none => rfl
 | some x => have := (hr.dom h.next x.1 x.2 e).1; omega
theorem Rel.push {P : Program} {β : Place} {h : Heap} {w : World} (hr : Rel P β h w) (o : AObj) : Rel P β (h.push o) w := by
 have old : ∀ c x, β c = some x → (h.push o).get c = h.get c := fun c x e => Heap.get_push_ne h o (by have := (hr.dom c x.1 x.2 e).1; omega)
 refine ⟨fun c m s e => ?_, fun c m s q e g => ?_, fun c c' m s1 s2 q q' e e' g g' hq => ?_⟩
 ·obtain ⟨h1, h2⟩ := hr.dom c m s e
  exact ⟨by simp; omega, h2⟩
 ·rw [old c _ e] at g
  exact hr.obj c m s q e g
 ·rw [old c _ e] at g
  rw [old c' _ e'] at g'
  exact hr.inj c c' m s1 s2 q q' e e' g g' hq
theorem Rel.mapped {P : Program} {β : Place} {h : Heap} {w w' : World} {b : Nat} {s : Sh} {o : AObj} {mo : Obj} (hr : Rel P β h w) (hb : β b = none) (hlt : b < h.next) (hg : h.get b = some o)
  (hh : w'.heap = w.heap.push mo) (ho : ORel P (β.add b w.heap.size s) w' w.heap.size s o) : Rel P (β.add b w.heap.size s) h w' := by
 have hmono := Place.add_mono w.heap.size s hb
 have hold : ∀ k, k < w.heap.size → w'.heap[k]? = w.heap[k]? := fun k hk => by rw [hh, Array.getElem?_push, if_neg (by omega)]
 refine ⟨fun c m s' e => ?_, fun c m s' q e g => ?_, fun c c' m s1 s2 q q' e e' g g' hq => ?_⟩
 ·by_cases hc : c = b
  ·subst hc
   rw [Place.add_same] at e
   cases e
   exact ⟨hlt, by rw [hh]; simp⟩
  ·rw [Place.add_ne _ _ _ hc] at e
   obtain ⟨h1, h2⟩ := hr.dom c m s' e
   exact ⟨h1, by rw [hh]; simp; omega⟩
 ·by_cases hc : c = b
  ·subst hc
   rw [Place.add_same] at e
   cases e
   rw [hg] at g
   cases g
   exact ho
  ·rw [Place.add_ne _ _ _ hc] at e
   exact (hr.obj c m s' q e g).mono hmono (hold m (hr.dom c m s' e).2)
 ·by_cases hc : c = b
  ·by_cases hc' : c' = b
   ·rw [hc, hc']
   ·subst hc
    rw [Place.add_same] at e
    cases e
    rw [Place.add_ne _ _ _ hc'] at e'
    have := (hr.dom c' _ _ e').2
    omega
  ·rw [Place.add_ne _ _ _ hc] at e
   by_cases hc' : c' = b
   ·subst hc'
    rw [Place.add_same] at e'
    cases e'
    have := (hr.dom c _ _ e).2
    omega
   ·rw [Place.add_ne _ _ _ hc'] at e'
    exact hr.inj c c' m s1 s2 q q' e e' g g' hq
theorem Rel.alloc {P : Program} {β : Place} {h : Heap} {w w' : World} {s : Sh} {o : AObj} {mo : Obj} (hr : Rel P β h w) (hh : w'.heap = w.heap.push mo) (hos : w'.os = w.os) (htp : w'.tape = w.tape) (hout : w'.output = w.output)
  (ho : ORel P (β.add h.next w.heap.size s) w' w.heap.size s o) :
  Rel P (β.add h.next w.heap.size s) (h.push o) w' ∧ Step β h w (β.add h.next w.heap.size s) (h.push o) w' := by
 have hn := hr.noNext
 refine ⟨(hr.push o).mapped hn (by simp) (Heap.get_push_self h o) hh ho, ?_⟩
 refine ⟨Place.add_mono _ _ hn, fun c hc e => ⟨by rw [Place.add_ne _ _ _ (by omega)]; exact e, Heap.get_push_ne h o (by omega)⟩, by simp, fun c q hc g => ?_, fun c m s' e e' => ?_, hos, htp, hout, by rw [hh]; simp, fun k hk _ => by rw [hh, Array.getElem?_push, if_neg (by omega)], fun k r e => ⟨r, by rw [hh, Array.getElem?_push, if_neg (by have := (Array.getElem?_eq_some_iff.1 e).1; omega)]; exact e⟩⟩
 ·rw [Heap.get_push_ne h o (by omega)] at g
  exact ⟨q, g, id⟩
 ·by_cases hc : c = h.next
  ·subst hc
   rw [Place.add_same] at e'
   cases e'
   exact .inl (Nat.le_refl _)
  ·rw [Place.add_ne _ _ _ hc, e] at e'
   cases e'
theorem Rel.same {P : Program} {β : Place} {h : Heap} {w w' : World} (hr : Rel P β h w) (hh : w'.heap = w.heap) : Rel P β h w' :=
 ⟨fun b m s e => by rw [hh]; exact hr.dom b m s e, fun b m s o e g => (hr.obj b m s o e g).mono (fun _ _ e => e) (by rw [hh]), hr.inj⟩
theorem Step.same {β : Place} {h : Heap} {w w' : World} (hh : w'.heap = w.heap) (hos : w'.os = w.os) (htp : w'.tape = w.tape) (hout : w'.output = w.output) : Step β h w β h w' :=
 ⟨fun _ _ e => e, fun _ _ e => ⟨e, rfl⟩, Nat.le_refl _, fun _ o' _ e => ⟨o', e, id⟩, fun _ _ _ e e' => by simp [e] at e', hos, htp, hout, by rw [hh]; exact Nat.le_refl _, fun _ _ _ => by rw [hh], fun _ r e => ⟨r, by rw [hh]; exact e⟩⟩
open Go.RowKit
def qT (P : Program) (t : TypeId) : Option (List Value) :=
 match P.info? t with
 | some i => match i.zero with | some z => if a3p z ∧ z.cells.size = i.size then some z.cells.toList else none | none => none
 | none => none
theorem j0 {P : Program} {t : TypeId} {l : List Value} (h : qT P t = some l) : ∃ i z, P.info? t = some i ∧ i.zero = some z ∧ z.cells.size = i.size ∧ l = z.cells.toList ∧ l.all qF = true := by
 unfold qT at h
 cases hi : P.info? t with
 | none => simp [hi] at h
 | some i =>
  cases hz : i.zero with
  | none => simp [hi, hz] at h
  | some z =>
   simp only [hi, hz] at h
   split at h
   ·rename_i hc
    cases h
    exact ⟨i, z, rfl, hz, hc.2, rfl, hc.1⟩
   ·cases h
def jJ (z : List Value) (n : Nat) : List Value := (List.replicate n z).flatten
theorem Zo (z : List Value) (n : Nat) : (jJ z n).length = n * z.length := by simp [jJ]
theorem vM {z : List Value} (h : z.all qF = true) (n : Nat) : (jJ z n).all qF = true := by
 simp only [jJ, List.all_flatten, List.all_replicate]
 split
 ·rfl
 ·exact h
theorem vc (z : List Value) : ∀ (n i : Nat), i < n * z.length → (jJ z n)[i]? = z[i % z.length]?
 | 0, i, h => by simp at h
 | n + 1, i, h => by
  have hz : 0 < z.length := by
   rcases Nat.eq_zero_or_pos z.length with q | q
   ·rw [q] at h; simp at h
   ·exact q
  have e : jJ z (n + 1) = z ++ jJ z n := by simp [jJ, List.replicate_succ]
  rw [e]
  by_cases hi : i < z.length
  ·rw [List.getElem?_append_left hi, Nat.mod_eq_of_lt hi]
  ·rw [List.getElem?_append_right (by omega), vc z n (i - z.length) (by rw [Nat.add_mul] at h; omega)]
   congr 1
   rw [Nat.mod_eq_sub_mod (by omega : z.length ≤ i)]
theorem K0 (z : Array Value) (n : Nat) : (madeCells z (n * z.size)).toList = jJ z.toList n := by
 apply List.ext_getElem?
 intro i
 by_cases hi : i < n * z.size
 ·have hz : 0 < z.size := by
   rcases Nat.eq_zero_or_pos z.size with q | q
   ·rw [q] at hi; simp at hi
   ·exact q
  have hm := Nat.mod_lt i hz
  rw [vc _ _ _ (by simpa using hi)]
  simp [madeCells, List.getElem?_range hi, hm]
 ·rw [List.getElem?_eq_none (by simp [madeCells]; omega), List.getElem?_eq_none (by rw [Zo]; simp; omega)]
abbrev a8u := AObj × (Nat → Value)
def qu (n c : Nat) (b : Nat) : Value := .slice (some ⟨b, 0, none⟩) n c
def kH (b : Nat) : Value := .pointer (some ⟨b, 0, none⟩)
def kM (P : Program) (t : TypeId) (len : Nat) (ps : List (Nat × Value)) : Option a8u :=
 match P.underlying t with
 | some (.slice e) =>
  match qT P e, szT P e with
  | some z, some s =>
   if len * s ≤ 16777216 ∧ 0 < s ∧ len ≤ maxLen then
    match Instr.fill (fun i => some (i * s, s)) (jJ z len).toArray ps with
    | some cs => some (.cells cs.toList e true, qu len len)
    | none => none
   else none
  | _, _ => none
 | _ => none
def Q8 (P : Program) (t : TypeId) (l c : Value) : Option a8u :=
 match P.underlying t, kR l, kR c with
 | some (.slice e), some l, some c =>
  match qT P e, P.info? e with
  | some z, some i => if l ≤ c ∧ i.bytes * c ≤ 281474976710656 ∧ c ≤ maxLen ∧ 0 < i.size then some (.cells (jJ z c) e true, qu l c) else none
  | _, _ => none
 | _, _, _ => none
def je (s : ByteArray) : List Value := s.data.toList.map fun b => .int .u8 b.toNat
def jp (P : Program) (o : Op) (ρ : Rho) : Option a8u :=
 match o with
 | .box t x => match ρ x with
  | some v => if szT P t = some v.cells.size then some (.cells v.cells.toList t true, kH) else none
  | none => none
 | .alloc t => match qT P t with
  | some z => some (.cells z t true, kH)
  | none => none
 | .buildSlice t len parts => match K4 ρ parts.toList with
  | some ps => kM P t len ps
  | none => none
 | .makeSlice t l c => match ρ l, ρ c with
  | some a, some b => Q8 P t a b
  | _, _ => none
 | .makeMap t none => match P.underlying t with
  | some (.map _ _) => some (.map [] 0, fun b => .map (some b))
  | _ => none
 | .makeChan t s => match P.underlying t, ρ s with
  | some (.chan _ e), some (.int _ n) => match P.info? e with
   | some i => if 0 ≤ n ∧ n ≤ 1000000 ∧ i.bytes ≤ 1000000 then some (.chan n.toNat [], fun b => .chan (some b)) else none
   | none => none
  | _, _ => none
 | .convert src dst x => match P.underlying src, P.underlying dst, ρ x with
  | some _, some (.slice e), some (.string s) =>
   match P.underlying e with
   | some (.int .u8) => if szT P e = some 1 ∧ s.size ≤ maxLen then some (.cells (je s) e true, qu s.size unk) else none
   | _ => none
  | _, _, _ => none
 | _ => none
structure NewRel (P : Program) (β : Place) (w : World) (mk : Nat → Value) (o : AObj) (mv : Value) (w' : World) (s : Sh) : Prop where
 heap : ∃ mo, w'.heap = w.heap.push mo
 os : w'.os = w.os
 tape : w'.tape = w.tape
 output : w'.output = w.output
 rel : ∀ (β' : Place) (b : Nat), (∀ c x, β c = some x → β' c = some x) → β' b = some (w.heap.size, s) → VRel β' (mk b) mv ∧ ORel P β' w' w.heap.size s o
theorem Z6 (hp : Array Obj) (o : Obj) : (hp.push o)[hp.size]? = some o := by simp
theorem Xr {P : Program} {β : Place} {ρ : Rho} {μ : Operand → Value} {o : Oper} {q : AObj} {mk : Nat → Value} (hρ : QM β ρ μ) (h : jp P o.op ρ = some (q, mk)) (w : World) :
  ∃ mv w' s, (execOp μ o).run P w = .ok (.value mv) w' ∧ NewRel P β w mk q mv w' s := by
 unfold jp at h
 unfold execOp
 split at h
 ·rename_i t x he
  rw [he]
  split at h
  ·rename_i v hv
   split at h
   ·rename_i hs
    cases h
    have hr := hρ _ _ hv
    have hc := hr.cells
    have hsz : (μ x).cells.size = v.cells.size := by have := hc.length; simpa using this.symm
    refine ⟨.pointer (some ⟨w.heap.size, 0, none⟩), { w with heap := w.heap.push (.cells (μ x).cells t) }, ⟨0, v.cells.size, v.cells.size⟩, by simp [Instr.box, newVar, newRow], ⟨⟨_, rfl⟩, rfl, rfl, rfl, fun β' b hβ hb => ⟨.ptr hb, ?_⟩⟩⟩
    refine ⟨(μ x).cells, (0, 0), _, Z6 _ _, by simp [hsz], ?_, fun _ => ⟨⟨fun i _ => by simp, Nat.le_refl _⟩, rfl, hsz, hs⟩⟩
    have := hc.mono hβ
    rw [List.drop_zero, List.take_of_length_le (by simp [hsz])]
    exact this
   ·cases h
  ·cases h
 ·rename_i t he
  rw [he]
  split at h
  ·rename_i z hz
   cases h
   obtain ⟨i, zv, hi, hzv, hsz, rfl, hall⟩ := j0 hz
   refine ⟨.pointer (some ⟨w.heap.size, 0, none⟩), { w with heap := w.heap.push (.cells zv.cells t) }, ⟨0, zv.cells.size, i.size⟩, ?_, ⟨⟨_, rfl⟩, rfl, rfl, rfl, fun β' b hβ hb => ⟨.ptr hb, ?_⟩⟩⟩
   ·simp [Instr.alloc, zeroValue, typeInfo, hi, hzv, newVar, newRow]
   ·refine ⟨zv.cells, (0, 0), _, Z6 _ _, by simp, ?_, fun _ => ⟨⟨fun i _ => by simp, Nat.le_refl _⟩, rfl, rfl, by simp [hi]⟩⟩
    rw [List.drop_zero, List.take_of_length_le (by simp)]
    exact VRels.const hall
  ·cases h
 ·rename_i t len parts he
  rw [he]
  split at h
  ·rename_i ps hp
   have hr := XJ hρ hp
   unfold kM at h
   split at h
   ·rename_i e hu
    split at h
    ·rename_i z s hz hs
     obtain ⟨i, zv, hi, hzv, hsz, rfl, hall⟩ := j0 hz
     have his : i.size = s := by simpa [szT, hi] using hs
     split at h
     ·rename_i hc
      obtain ⟨hc1, hc2, hc3⟩ := hc
      split at h
      ·rename_i cs hf
       cases h
       have hmc : (madeCells zv.cells (len * s)).toList = jJ zv.cells.toList len := by rw [← his, ← hsz]; exact K0 _ _
       obtain ⟨r', hf', hr'⟩ := xb hr (mcs := madeCells zv.cells (len * s)) (by rw [hmc]; exact VRels.const (vM hall len)) hf
       have hfl : ∀ {β : Place} {ps : List (Nat × Value)} {cs r : Array Value}, Instr.fill (fun i => some (i * s, s)) cs ps = some r → r.size = cs.size := by
        intro β ps
        induction ps with
        | nil => intro cs r e; simp [Instr.fill] at e; rw [e]
        | cons p ps ih =>
         intro cs r e
         obtain ⟨i, v⟩ := p
         unfold Instr.fill at e
         simp only at e
         split at e
         ·cases e
         ·rw [ih e]
          have : ∀ (l : List (Value × Nat)) (c : Array Value), (l.foldl (fun cs (p : Value × Nat) => cs.setIfInBounds (i * s + p.2) p.1) c).size = c.size := by
           intro l
           induction l with
           | nil => intro c; rfl
           | cons a l ih2 => intro c; rw [List.foldl_cons, ih2]; simp
          rw [← Array.foldl_toList]
          exact this _ _
       have hsz' : r'.size = len * s := by
        rw [hfl (β := β) hf', size_madeCells]
       refine ⟨.slice (some ⟨w.heap.size, 0, none⟩) len len, { w with heap := w.heap.push (.cells r' e) }, ⟨0, r'.size, s⟩, ?_, ⟨⟨_, rfl⟩, rfl, rfl, rfl, fun β' b hβ hb => ⟨?_, ?_⟩⟩⟩
       ·have hle : ¬ (len * i.size > 2 ^ 24) := by rw [his]; simp; exact hc1
        have hzz : (if len * i.size = 0 then (pure #[] : Sem (Array Value)) else do pure (← zeroValue e).cells).run P w = .ok (if len * i.size = 0 then #[] else zv.cells) w := by
         split <;> simp [zeroValue, typeInfo, hi, hzv]
        have hmm : (Array.range (len * i.size)).map ((if len * i.size = 0 then #[] else zv.cells)[· % (if len * i.size = 0 then #[] else zv.cells).size]!) = madeCells zv.cells (len * s) := by
         rw [his]
         split
         ·rename_i h0; rw [h0]; simp [madeCells, Array.range_zero']
         ·rfl
        have hf'' : Instr.fill (fun i_1 => some (i_1 * i.size, i.size)) (madeCells zv.cells (len * s)) (parts.map fun (p : Nat × Operand) => (p.1, μ p.2)).toList = some r' := by
         rw [his]; simpa using hf'
        simp only [Instr.buildSlice, Sem.run_bind, run_underlying hu, Result.andThen_ok, sizeOf, typeInfo, run_program, hi, Sem.run_pure]
        rw [if_neg hle]
        by_cases h0 : len * i.size = 0
        ·simp only [if_pos h0] at hmm ⊢
         simp only [Sem.run_bind, Sem.run_pure, Result.andThen_ok, hmm]
         rw [hf'']
         simp [newRow]
        ·simp only [if_neg h0] at hmm ⊢
         simp only [Sem.run_bind, Sem.run_pure, Result.andThen_ok, zeroValue, typeInfo, run_program, hi, hzv, hmm]
         rw [hf'']
         simp [newRow]
       ·have := VRel.slice (β := β') (o := 0) (n := len) (c := len) (c' := len) hb (.inr (.inr rfl)) (Nat.le_refl _) hc3 (.inr (.inr (by simp [hsz'])))
        simpa [qu] using this
       ·refine ⟨r', (0, 0), _, Z6 _ _, by have := hr'.length; simp at this; simp [this], ?_, fun _ => ⟨⟨fun i _ => by simp, Nat.le_refl _⟩, rfl, rfl, by simp [hi, his]⟩⟩
        rw [List.drop_zero, List.take_of_length_le (by have := hr'.length; simp at this; simp [this])]
        exact hr'.mono hβ
      ·cases h
     ·cases h
    ·cases h
   ·cases h
  ·cases h
 ·rename_i t l c he
  rw [he]
  split at h
  ·rename_i a b ha hb
   unfold Q8 at h
   split at h
   ·rename_i e l0 c0 hu hl0 hc0
    obtain ⟨kl, el⟩ := QY ((hρ _ _ ha).idx hl0)
    obtain ⟨kc, ec⟩ := QY ((hρ _ _ hb).idx hc0)
    split at h
    ·rename_i z i hz hi
     obtain ⟨i', zv, hi', hzv, hsz, rfl, hall⟩ := j0 hz
     rw [hi] at hi'
     cases hi'
     split at h
     ·rename_i hc
      cases h
      obtain ⟨h1, h2, h3, h4⟩ := hc
      have hmc : (madeCells zv.cells (c0 * i.size)).toList = jJ zv.cells.toList c0 := by rw [← hsz]; exact K0 _ _
      have hrun := run_make (P := P) w t e i zv hu hi hzv kl kc l0 c0 (by omega) (by omega) (by have h2' : ((i.bytes * c0 : Nat) : Int) ≤ 281474976710656 := Int.ofNat_le.2 h2; rwa [Int.natCast_mul] at h2') (by simp only [maxLen] at h3; omega)
      simp only [Int.toNat_natCast] at hrun
      refine ⟨.slice (some ⟨w.heap.size, 0, none⟩) l0 c0, w.alloc (.cells (madeCells zv.cells (c0 * i.size)) e), ⟨0, c0 * i.size, i.size⟩, by simp only [el, ec, Sem.run_bind, hrun, Result.andThen_ok, Sem.run_pure], ⟨⟨_, rfl⟩, rfl, rfl, rfl, fun β' b hβ hb => ⟨?_, ?_⟩⟩⟩
      ·have := VRel.slice (β := β') (o := 0) (n := l0) (c := c0) (c' := c0) hb (.inr (.inr rfl)) h1 h3 (.inr (.inr (by simp)))
       simpa [qu] using this
      ·refine ⟨madeCells zv.cells (c0 * i.size), (0, 0), _, Z6 _ _, by rw [Zo, size_madeCells]; simp [hsz], ?_, fun _ => ⟨⟨fun i _ => by simp, Nat.le_refl _⟩, rfl, size_madeCells _ _, by simp [hi]⟩⟩
       rw [List.drop_zero, List.take_of_length_le (by rw [hmc]; exact Nat.le_refl _), hmc]
       exact VRels.const (vM hall c0)
     ·cases h
    ·cases h
   ·cases h
  ·cases h
 ·rename_i t he
  rw [he]
  split at h
  ·rename_i k e hu
   cases h
   refine ⟨.map (some w.heap.size), { w with heap := w.heap.push (.map #[] 0) }, ⟨0, 0, 0⟩, ?_, ⟨⟨_, rfl⟩, rfl, rfl, rfl, fun β' b hβ hb => ⟨.map hb, ⟨#[], Z6 _ _, .nil⟩⟩⟩⟩
   have hmm := @run_makeMap P
   simp [Instr.makeMap]
  ·cases h
 ·rename_i t s he
  rw [he]
  split at h
  ·rename_i d e k n hu hx
   split at h
   ·rename_i i hi
    split at h
    ·rename_i hc
     cases h
     have hv := hρ _ _ hx
     generalize hms : μ s = ms at hv
     cases hv
     refine ⟨.chan (some w.heap.size), { w with heap := w.heap.push (.chan n.toNat #[] false 0 0 false) }, ⟨0, 0, 0⟩, ?_, ⟨⟨_, rfl⟩, rfl, rfl, rfl, fun β' b hβ hb => ⟨.chan hb, ⟨rfl, #[], 0, 0, Z6 _ _, .nil⟩⟩⟩⟩
     have hle : (i.bytes : Int) * n ≤ 1000000 * 1000000 := by
      have h1 : (i.bytes : Int) * n ≤ 1000000 * n := Int.mul_le_mul_of_nonneg_right (by omega) hc.1
      omega
     have hnot : ¬ (n < 0 ∨ n > IntKind.i64.max ∨ (i.bytes : Int) * n > 2 ^ 48 - 112) := by
      have : IntKind.i64.max = 9223372036854775807 := by decide
      omega
     simp only [Instr.makeChan, hms, asInt, asIntOf, Sem.run_bind, Sem.run_pure, Result.andThen_ok, run_underlying hu, typeInfo, run_program, hi]
     rw [if_neg hnot]
     simp [newObj, Sem.run]
    ·cases h
   ·cases h
  ·cases h
 ·rename_i src dst x he
  rw [he]
  split at h
  ·rename_i D e s hu1 hu2 hx
   split at h
   ·rename_i hu3
    split at h
    ·rename_i hc
     cases h
     have hm := hρ _ _ hx
     generalize hmx : μ x = mx at hm
     cases hm
     have hcap1 := grownCap_ge w s.size 0 e
     have hcap2 : grownCap w s.size 0 e ≤ maxLen := grownCap_le_maxLen w s.size 0 e hc.2
     have hds : s.data.size = s.size := rfl
     have hmcs : (Lib.bytesCells w e s).size = grownCap w s.size 0 e := by simp [Lib.bytesCells]; omega
     refine ⟨.slice (some ⟨w.heap.size, 0, none⟩) s.size (grownCap w s.size 0 e), Lib.bytesWorld w e s, ⟨0, grownCap w s.size 0 e, 1⟩, by simp only [hmx, Sem.run_bind, Lib.run_convert_string_bytes w src dst e s hu1 hu2 hu3, Result.andThen_ok, Sem.run_pure],
      ⟨⟨.cells (Lib.bytesCells w e s) e ((Lib.bytesCells w e s).size, (Lib.bytesCells w e s).size + 1), ?_⟩, rfl, rfl, rfl, fun β' b hβ hb => ⟨?_, ?_⟩⟩⟩
     ·apply Array.ext_getElem?
      intro k
      rw [Array.getElem?_push]
      rcases Nat.lt_trichotomy k w.heap.size with hk | hk | hk
      ·rw [Lib.bytesWorld_at_old w e s k hk, if_neg (by omega)]
      ·subst hk; rw [Lib.bytesWorld_at_new, if_pos rfl]
      ·rw [Array.getElem?_eq_none (by rw [Lib.bytesWorld_size]; omega), if_neg (by omega), Array.getElem?_eq_none (by omega)]
     ·have := VRel.slice (β := β') (o := 0) (n := s.size) (c := unk) (c' := grownCap w s.size 0 e) hb (.inl rfl) hcap1 hcap2 (.inr (.inr (by simp)))
      simpa [qu] using this
     ·have hlen : (je s).length = s.size := by simp [je]
      refine ⟨Lib.bytesCells w e s, _, _, Lib.bytesWorld_at_new w e s, by rw [hlen, hmcs]; show 0 + s.size ≤ _; omega, ?_, fun _ => ⟨⟨fun i hi => by omega, by simp⟩, rfl, hmcs, hc.1⟩⟩
      rw [List.drop_zero, hlen]
      have : (Lib.bytesCells w e s).toList.take s.size = je s := by
       simp only [Lib.bytesCells, je, Array.toList_append]
       rw [List.take_left' (by simp)]
       simp
      rw [this]
      refine VRels.const ?_
      rw [List.all_eq_true]
      intro v hv
      obtain ⟨c, _, rfl⟩ := List.mem_map.1 hv
      rfl
    ·cases h
   ·cases h
  ·cases h
 ·cases h
open Go.RowKit
theorem Za {P : Program} {m p : Nat} {e : TypeId} {fr : Nat × Nat} : ∀ (vs : List Value) (j : Nat) {w : World} {mc : Array Value}, w.heap[m]? = some (.cells mc e fr) → p + j + vs.length ≤ mc.size → vs.all Value.oneCell' = true →
  (∀ i, i < mc.size → ¬ (fr.1 ≤ i ∧ i < fr.2)) →
  ∃ w' mc', (storeCells ⟨m, p, none⟩ vs j).run P w = .ok () w' ∧ w'.heap[m]? = some (.cells mc' e fr) ∧ mc'.toList = qL mc.toList (p + j) vs ∧ mc'.size = mc.size ∧ (∀ k, k ≠ m → w'.heap[k]? = w.heap[k]?) ∧
   w'.heap.size = w.heap.size ∧ w'.os = w.os ∧ w'.tape = w.tape ∧ w'.output = w.output
 | [], j, w, mc, hg, _, _, _ => ⟨w, mc, by simp [storeCells], hg, rfl, rfl, fun _ _ => rfl, rfl, rfl, rfl, rfl⟩
 | v :: vs, j, w, mc, hg, hle, hone, hfz => by
  simp only [List.all_cons, Bool.and_eq_true, List.length_cons] at hone hle
  have hcell : w.cell? ⟨m, p + j, none⟩ = some (mc[p + j]'(by omega)) := by
   rw [cell_of_row w m _ mc e fr hg]
   exact Array.getElem?_eq_getElem (by omega)
  have hfrz : w.frozen? ⟨m, p + j, none⟩ = false := by
   have := hfz (p + j) (by omega)
   simp only [World.frozen?, hg]
   simpa using this
  have hrun : (store ⟨m, p + j, none⟩ v .plain).run P w = .ok () (w.setCell ⟨m, p + j, none⟩ v) := by
   rw [run_store P w _ v .plain hone.1, hcell]
   simp [hfrz]
  obtain ⟨w', mc', e1, e2, e3, e4, e5, e6, e7, e8, e9⟩ := Za (P := P) (m := m) (p := p) (e := e) (fr := fr) vs (j + 1) (w := w.setCell ⟨m, p + j, none⟩ v) (mc := mc.setIfInBounds (p + j) v) (K1 hg v) (by simp; omega) hone.2 (by simpa using hfz)
  refine ⟨w', mc', ?_, e2, ?_, by simpa using e4, fun k hk => (e5 k hk).trans (heap_setCell_other w _ k v hk), by simpa using e6, e7, e8, e9⟩
  ·simp only [storeCells, Sem.run_bind, Addr.add_lit, hrun, Result.andThen_ok]
   exact e1
  ·rw [e3, qL]
   simp [Nat.add_assoc]
theorem Rel.moved {P : Program} {β : Place} {h : Heap} {w w' : World} {b m : Nat} {s s' : Sh} {o o' : AObj} (hr : Rel P β h w) (hb : β b = some (m, s)) (hg : h.get b = some o) (hrw : o.rw = true)
  (hsz : w'.heap.size = w.heap.size) (hother : ∀ k, k ≠ m → w'.heap[k]? = w.heap[k]?) (hos : w'.os = w.os) (htp : w'.tape = w.tape) (hout : w'.output = w.output) (ho : ORel P (β.add h.next m s') w' m s' o') (hlp : o.isLoop = false := by rfl) :
  Rel P (β.add h.next m s') ((h.kill b).push o') w' ∧ Step β h w (β.add h.next m s') ((h.kill b).push o') w' := by
 have hn := hr.noNext
 have hmono := Place.add_mono m s' hn
 have hbn : b < h.next := (hr.dom b m s hb).1
 have hmw : m < w.heap.size := (hr.dom b m s hb).2
 have old : ∀ c, c ≠ h.next → c ≠ b → ((h.kill b).push o').get c = h.get c := fun c h1 h2 => by
  rw [Heap.get_push_ne _ _ (by simpa using h1), Heap.get_kill_ne _ h2]
 have dead : ((h.kill b).push o').get b = none := by
  rw [Heap.get_push_ne _ _ (by simp; omega), Heap.get_kill, if_pos rfl]
 have new : ((h.kill b).push o').get h.next = some o' := Heap.get_push_self (h.kill b) o'
 have other : ∀ c m1 s1 q, c ≠ h.next → β.add h.next m s' c = some (m1, s1) → ((h.kill b).push o').get c = some q → c ≠ b ∧ β c = some (m1, s1) ∧ h.get c = some q ∧ m1 ≠ m := by
  intro c m1 s1 q hc e g
  rw [Place.add_ne _ _ _ hc] at e
  have hcb : c ≠ b := by rintro rfl; rw [dead] at g; cases g
  rw [old c hc hcb] at g
  exact ⟨hcb, e, g, by rintro rfl; exact hcb (hr.inj b c m1 s s1 o q hb e hg g hrw).symm⟩
 constructor
 ·refine ⟨fun c m1 s1 e => ?_, fun c m1 s1 q e g => ?_, fun c c' m1 s1 s2 q q' e e' g g' hq => ?_⟩
  ·by_cases hc : c = h.next
   ·subst hc
    rw [Place.add_same] at e
    cases e
    exact ⟨by simp, by omega⟩
   ·rw [Place.add_ne _ _ _ hc] at e
    obtain ⟨h1, h2⟩ := hr.dom c m1 s1 e
    exact ⟨by simp; omega, by omega⟩
  ·by_cases hc : c = h.next
   ·subst hc
    rw [Place.add_same] at e
    cases e
    rw [new] at g
    cases g
    exact ho
   ·obtain ⟨_, e1, g1, hne⟩ := other c m1 s1 q hc e g
    exact (hr.obj c m1 s1 q e1 g1).mono hmono (hother m1 hne)
  ·by_cases hc : c = h.next
   ·by_cases hc' : c' = h.next
    ·rw [hc, hc']
    ·obtain ⟨_, _, _, hne⟩ := other c' m1 s2 q' hc' e' g'
     subst hc
     rw [Place.add_same] at e
     cases e
     exact absurd rfl hne
   ·obtain ⟨_, e1, g1, hne⟩ := other c m1 s1 q hc e g
    by_cases hc' : c' = h.next
    ·subst hc'
     rw [Place.add_same] at e'
     cases e'
     exact absurd rfl hne
    ·obtain ⟨_, e2, g2, _⟩ := other c' m1 s2 q' hc' e' g'
     exact hr.inj c c' m1 s1 s2 q q' e1 e2 g1 g2 hq
 ·refine ⟨hmono, fun c hc e => ⟨by rw [Place.add_ne _ _ _ (by omega)]; exact e, old c (by omega) (by rintro rfl; rw [hb] at e; cases e)⟩, by simp, fun c q hc g => ?_, fun c m1 s1 e e' => ?_, hos, htp, hout, by omega, fun k hk hnr => hother k ?_, fun k r e => ⟨r, (hother k ?_).trans e⟩⟩
  ·by_cases hcb : c = b
   ·subst hcb; rw [dead] at g; cases g
   ·rw [old c (by omega) hcb] at g
    exact ⟨q, g, id⟩
  ·by_cases hc : c = h.next
   ·subst hc
    rw [Place.add_same] at e'
    cases e'
    exact .inr ⟨b, s, o, hb, hg, hrw⟩
   ·rw [Place.add_ne _ _ _ hc, e] at e'
    cases e'
  ·rintro rfl
   exact hnr ⟨b, s, o, hb, hg, hrw⟩
  ·rintro rfl
   have := hr.obj b k s o hb hg
   cases o with
   | cells => obtain ⟨_, _, _, h1, _⟩ := this; rw [e] at h1; cases h1
   | map => obtain ⟨_, h1, _⟩ := this; rw [e] at h1; cases h1
   | iter => obtain ⟨_, _, h1, _⟩ := this; rw [e] at h1; cases h1
   | striter => obtain ⟨_, h1⟩ := this; rw [e] at h1; cases h1
   | chan => obtain ⟨_, _, _, _, h1, _⟩ := this; rw [e] at h1; cases h1
   | loop => cases hlp
theorem Rel.kill {P : Program} {β : Place} {h : Heap} {w : World} (hr : Rel P β h w) (b m : Nat) (s : Sh) (hb : β b = some (m, s)) : Rel P β (h.kill b) w ∧ Step β h w β (h.kill b) w := by
 have live : ∀ c q, (h.kill b).get c = some q → h.get c = some q := by
  intro c q g
  rw [Heap.get_kill] at g
  split at g
  ·cases g
  ·exact g
 refine ⟨⟨hr.dom, fun c m s q e g => hr.obj c m s q e (live c q g), fun c c' m s1 s2 q q' e e' g g' => hr.inj c c' m s1 s2 q q' e e' (live c q g) (live c' q' g')⟩, ?_⟩
 exact ⟨fun _ _ e => e, fun c hc e => ⟨e, Heap.get_kill_ne h (by rintro rfl; rw [hb] at e; cases e)⟩, Nat.le_refl _, fun c q hc g => ⟨q, live c q g, id⟩, fun _ _ _ e e' => by simp [e] at e', rfl, rfl, rfl, Nat.le_refl _, fun _ _ _ => rfl, fun _ r e => ⟨r, e⟩⟩
def uX (P : Program) (size : Nat) (t : TypeId) (h : Heap) (x : Value) : Option (Nat × List Value) :=
 match P.underlying t, x with
 | some .string, .string s => if size = 1 then some (s.size, je s) else none
 | some (.slice _), .slice none 0 0 => some (0, [])
 | some (.slice _), .slice (some ⟨b, o, none⟩) n c =>
  if n = 0 then some (0, []) else
  match h.get b with
  | some (.cells cs _ _) => if o + n * size ≤ cs.length ∧ ((cs.drop o).take (n * size)).all Value.oneCell' = true then some (n, (cs.drop o).take (n * size)) else none
  | _ => none
 | _, _ => none
def ZM : Value → Option Value
 | .func (.yield 0) xs _ => if xs.size = 2 then xs[0]? else none
 | _ => none
theorem VRel.exact_inv {β : Place} {s u ms : Value} (h : VRel β s ms) (e : ZM s = some u) : ∃ a n, ms = .slice a n n ∧ VRel β u (.slice a n n) := by
 cases h with
 | exact h => simp [ZM] at e; subst e; exact ⟨_, _, rfl, h⟩
 | yield _ =>
  unfold ZM at e
  split at e
  ·rename_i heq
   cases heq
   simp at e
  ·cases e
 | least _ =>
  unfold ZM at e
  split at e
  ·rename_i heq
   cases heq
   simp at e
  ·cases e
 | func hf _ _ _ _ =>
  rename_i f xs ys xs' ys' _ _ _ _
  cases f with
  | yield n => cases hf
  | _ => cases e
 | _ => cases e
def kD (P : Program) (ts : List TypeId) (h : Heap) (s x : Value) : Option (Value × Heap) :=
 match ts with
 | [t, t2] =>
  match P.underlying t with
  | some (.slice e) =>
   match P.info? e, qT P e with
   | some i, some _ =>
    match uX P i.size t2 h x with
    | some (m, news) =>
     match s with
     | .slice none 0 0 =>
      if m = 0 then some (s, h) else
      if m ≤ maxLen ∧ m * i.bytes ≤ 140737488355328 then some (qu m unk h.next, h.push (.cells news e true)) else none
     | .slice (some ⟨b, o, none⟩) n c =>
      if m = 0 then some (s, h) else
      if c = dud ∨ c = qG then none else
      if n + m ≤ maxLen ∧ (n + m) * i.bytes ≤ 140737488355328 then
       if n = 0 ∧ c = 0 then some (qu (n + m) unk h.next, h.push (.cells news e true)) else
       match h.get b with
       | some (.cells cs e' rw) =>
        if o + n * i.size ≤ cs.length ∧ ((c ≠ unk ∧ c < n + m) ∨ (szT P e' = some i.size ∧ e' = e)) then
         if c ≠ unk ∧ c < n + m then some (qu (n + m) unk h.next, h.push (.cells ((cs.drop o).take (n * i.size) ++ news) e true))
         else if rw then some (qu (n + m) unk h.next, (h.kill b).push (.cells ((cs.drop o).take (n * i.size) ++ news) e true)) else none
        else none
       | _ => none
      else none
     | s => match ZM s with
      | some (.slice (some ⟨b, o, none⟩) n _) =>
       if m = 0 then some (s, h) else
       if n + m ≤ maxLen ∧ (n + m) * i.bytes ≤ 140737488355328 then
        match h.get b with
        | some (.cells cs _ _) =>
         if o + n * i.size ≤ cs.length ∧ 0 < n then some (qu (n + m) unk h.next, h.push (.cells ((cs.drop o).take (n * i.size) ++ news) e true)) else none
        | _ => none
       else none
      | _ => none
    | none => none
   | _, _ => none
  | _ => none
 | _ => none
theorem X7 {P : Program} {β : Place} {h : Heap} {w : World} {t : TypeId} {x mx : Value} {size m : Nat} {news : List Value} (hr : Rel P β h w) (hx : VRel β x mx) (hs : uX P size t h x = some (m, news)) :
  ∃ mnews : List Value, VRels β news mnews ∧ news.length = m * size ∧ news.all Value.oneCell' = true ∧ (∀ w : World, (Builtin.lenOf mx).run P w = .ok m w) ∧ (P.underlying t = some .string ∨ ∃ e2, P.underlying t = some (.slice e2)) ∧
   (∀ w' : World, w'.heap = w.heap → (Builtin.firstCells size m mx).run P w' = .ok mnews.toArray w') := by
 unfold uX at hs
 split at hs
 ·rename_i s hu
  cases hx
  split at hs
  ·rename_i h1
   cases hs
   subst h1
   have hds : s.data.size = s.size := rfl
   refine ⟨je s, ?_, by simp [je], ?_, fun w => rfl, .inl hu, fun w' _ => ?_⟩
   ·refine VRels.const ?_
    rw [List.all_eq_true]; intro v hv; obtain ⟨c, _, rfl⟩ := List.mem_map.1 hv; rfl
   ·rw [List.all_eq_true]; intro v hv; obtain ⟨c, _, rfl⟩ := List.mem_map.1 hv; rfl
   ·have : (s.extract 0 s.size) = s := by
     simp
    simp only [Builtin.firstCells, this, Sem.run_pure]
    congr 1
    apply Array.ext'
    simp [je]
  ·cases hs
 ·rename_i e hu
  cases hx
  cases hs
  exact ⟨[], .nil, by simp, rfl, fun w => rfl, .inr ⟨_, hu⟩, fun w' _ => by simp [Builtin.firstCells]⟩
 ·rename_i e b o n c hu
  split at hs
  ·rename_i hn
   cases hs
   subst hn
   rcases hx.slice_inv with ⟨m', s', c', hb, rfl, _⟩ | ⟨_, _, a', c', rfl⟩ | ⟨_, _, a', rfl⟩
   ·exact ⟨[], .nil, by simp, rfl, fun w => rfl, .inr ⟨_, hu⟩, fun w' _ => by simp [Builtin.firstCells, loadCells, loadCellsFrom]⟩
   ·exact ⟨[], .nil, by simp, rfl, fun w => rfl, .inr ⟨_, hu⟩, fun w' _ => by simp [Builtin.firstCells, loadCells, loadCellsFrom]⟩
   ·exact ⟨[], .nil, by simp, rfl, fun w => rfl, .inr ⟨_, hu⟩, fun w' _ => by simp [Builtin.firstCells, loadCells, loadCellsFrom]⟩
  ·rename_i hn
   split at hs
   ·rename_i cs e' rw hg
    split at hs
    ·rename_i hc
     cases hs
     obtain ⟨hc, hone⟩ := hc
     rcases hx.slice_inv with ⟨m', s', c', hb, rfl, _⟩ | ⟨rfl, _⟩ | ⟨rfl, _⟩
     ·obtain ⟨mc, fr, te, hmg, hsz, hrs, _⟩ := hr.obj b m' s' _ hb hg
      have h1 := (hrs.drop o).take (m * size)
      have h2 : ((List.take cs.length (List.drop s'.off mc.toList)).drop o).take (m * size) = (mc.toList.drop (s'.off + o)).take (m * size) := by
       rw [List.drop_take, List.take_take, List.drop_drop]
       congr 1
       omega
      rw [h2] at h1
      have hlen : ((mc.toList.drop (s'.off + o)).take (m * size)).length = m * size := by simp; omega
      refine ⟨_, h1, by simp; omega, hone, fun w => rfl, .inr ⟨_, hu⟩, fun w' hw => ?_⟩
      exact run_firstCells_some (P := P) w' size m ⟨m', s'.off + o, none⟩ m c' _ hlen (jM (by rw [hw]; exact hmg) (s'.off + o) (m * size))
     ·exact absurd rfl hn
     ·exact absurd rfl hn
    ·cases hs
   ·cases hs
 ·cases hs
theorem VRels.all_one {β : Place} {l l' : List Value} (h : VRels β l l') : l'.all Value.oneCell' = l.all Value.oneCell' := by
 induction h with
 | nil => rfl
 | cons h _ ih => simp [h.oneCell, ih]
set_option maxHeartbeats 1000000 in
theorem U6 {P : Program} {β : Place} {h h' : Heap} {w : World} {ts : Array TypeId} {ty : TypeId} {s x ms mx v : Value} (hr : Rel P β h w) (hs : VRel β s ms) (hx : VRel β x mx) (ha : kD P ts.toList h s x = some (v, h')) :
  ∃ β' mv w', (Builtin.append_ ts ty #[ms, mx]).run P w = .ok mv w' ∧ VRel β' v mv ∧ Rel P β' h' w' ∧ Step β h w β' h' w' := by
 unfold kD at ha
 split at ha
 ·rename_i t t2 hts
  have hts' : ts = #[t, t2] := by apply Array.ext'; simpa using hts
  subst hts'
  split at ha
  ·rename_i e hu
   split at ha
   ·rename_i i z hi hz
    obtain ⟨i', zv, hi', hzv, hzs, rfl, hzc⟩ := j0 hz
    rw [hi] at hi'
    cases hi'
    split at ha
    ·rename_i m news hsrc
     obtain ⟨mnews, hrn, hlen, hone, hlo, hu2, hfirst⟩ := X7 hr hx hsrc
     have hmlen : mnews.length = m * i.size := by rw [← hrn.length]; exact hlen
     have hmone : mnews.all Value.oneCell' = true := by rw [hrn.all_one]; exact hone
     have zero : m = 0 → ∀ (base : Option Addr) (n c : Nat), ms = .slice base n c → n ≤ c → (Builtin.append_ #[t, t2] ty #[ms, mx]).run P w = .ok ms w := by
      intro hm base n c hms hle
      subst hm
      have hf := hfirst w rfl
      have : mnews = [] := List.eq_nil_of_length_eq_zero (by rw [hmlen]; simp)
      subst this
      subst hms
      rcases hu2 with hu2 | ⟨e2, hu2⟩ <;> cases base <;> simp [Builtin.append_, run_underlying hu, run_underlying hu2, sizeOf, typeInfo, hi, hlo, hf, hle, storeCells]
     have grow : ∀ (base : Option Addr) (n c : Nat) (olds : List Value), ms = .slice base n c → c < n + m → n + m ≤ maxLen → (n + m) * i.bytes ≤ 140737488355328 → olds.length = n * i.size →
       (∀ w' : World, w'.heap = w.heap → (Builtin.firstCells i.size n ms).run P w' = .ok olds.toArray w') →
       (Builtin.append_ #[t, t2] ty #[ms, mx]).run P w = .ok (.slice (some ⟨w.heap.size, 0, none⟩) (n + m) (grownCap w (n + m) c e))
        (w.drew.alloc (.cells (olds.toArray ++ mnews.toArray ++ Builtin.zeroCells zv.cells (grownCap w (n + m) c e - (n + m))) e)) := by
      intro base n c olds hms hlt h63 hb hol hfo
      have hnot : ¬ (n + m ≤ c) := by omega
      have h63' : ¬ (((n + m : Nat) : Int) > IntKind.i64.max) := by rw [IntKind.max_i64]; simp only [maxLen] at h63; omega
      have h48 : ¬ (Builtin.nextslicecap (n + m) c * i.bytes > 2 ^ 48) := by
       have := growslice_fits (bytes := i.bytes) hlt hb
       simp
       exact this
      have hf1 := hfo w.drew rfl
      have hf2 := hfirst w.drew rfl
      have hms' := hms
      subst hms
      have h63'' : ¬ (9223372036854775807 < ((n : Int) + (m : Int))) := by simp only [maxLen] at h63; omega
      have h48' : ¬ (281474976710656 < Builtin.nextslicecap (n + m) c * i.bytes) := by simpa using h48
      rcases hu2 with hu2 | ⟨e2, hu2⟩ <;>
       simp [Builtin.append_, run_underlying hu, run_underlying hu2, sizeOf, typeInfo, zeroValue, hi, hzv, hlo, hnot, h63'', h48', Question.forced, hf1, hf2, newRow, grownCap] <;>
       (congr 2; apply Array.ext'; simp)
     have newRel : ∀ (n c : Nat) (olds molds : List Value), VRels β olds molds → olds.length = n * i.size → n + m ≤ maxLen → c < n + m →
       let w' := w.drew.alloc (.cells (molds.toArray ++ mnews.toArray ++ Builtin.zeroCells zv.cells (grownCap w (n + m) c e - (n + m))) e)
       let sh : Sh := ⟨0, (molds.toArray ++ mnews.toArray ++ Builtin.zeroCells zv.cells (grownCap w (n + m) c e - (n + m))).size, i.size⟩
       VRel (β.add h.next w.heap.size sh) (qu (n + m) unk h.next) (.slice (some ⟨w.heap.size, 0, none⟩) (n + m) (grownCap w (n + m) c e)) ∧
       Rel P (β.add h.next w.heap.size sh) (h.push (.cells (olds ++ news) e true)) w' ∧ Step β h w (β.add h.next w.heap.size sh) (h.push (.cells (olds ++ news) e true)) w' := by
      intro n c olds molds hro hol hmax hlt w' sh
      have hge := grownCap_ge w (n + m) c e
      have hcm := grownCap_le_maxLen w (n + m) c e hmax
      have hmol : molds.length = n * i.size := by rw [← hro.length]; exact hol
      have hT : sh.T = grownCap w (n + m) c e * i.size := by
       simp only [sh, Array.size_append, List.size_toArray, size_zeroCells, hzs, hmol, hmlen, ← Nat.add_mul]
       congr 1
       omega
      have hlen2 : (olds ++ news).length = (n + m) * i.size := by rw [List.length_append, hol, hlen, Nat.add_mul]
      refine ⟨?_, hr.alloc (w' := w') (s := sh) rfl rfl rfl rfl ?_⟩
      ·have := VRel.slice (β := β.add h.next w.heap.size sh) (o := 0) (n := n + m) (c := unk) (c' := grownCap w (n + m) c e) (Place.add_same _ _ _ _) (.inl rfl) hge hcm (.inr (.inr (by rw [hT]; simp [sh])))
       simpa [qu, sh] using this
      ·refine ⟨_, (0, 0), _, heap_alloc_new w.drew _, ?_, ?_, fun _ => ⟨⟨fun i _ => by simp, Nat.le_refl _⟩, rfl, rfl, by simp [hi, sh]⟩⟩
       ·rw [hlen2]
        show 0 + _ ≤ sh.T
        rw [hT, Nat.zero_add]
        exact Nat.mul_le_mul_right _ hge
       ·rw [List.drop_zero, hlen2]
        have : (molds.toArray ++ mnews.toArray ++ Builtin.zeroCells zv.cells (grownCap w (n + m) c e - (n + m))).toList.take ((n + m) * i.size) = molds ++ mnews := by
         simp only [Array.toList_append]
         rw [List.take_left' (by simp [hmol, hmlen, Nat.add_mul])]
        rw [this]
        exact (hro.append hrn).mono (Place.add_mono _ _ hr.noNext)
     split at ha
     ·-- a nil slice
      cases hs
      split at ha
      ·rename_i hm
       cases ha
       exact ⟨β, _, w, zero hm _ _ _ rfl (Nat.le_refl _), .nilslice, hr, Step.refl _ _ _⟩
      ·rename_i hm
       split at ha
       ·rename_i hc
        cases ha
        obtain ⟨h1, h2⟩ := hc
        have hrun := grow none 0 0 [] rfl (by omega) (by omega) (by simpa using h2) (by simp) (fun w' _ => by simp [Builtin.firstCells])
        obtain ⟨k1, k2, k3⟩ := newRel 0 0 [] [] .nil (by simp) (by omega) (by omega)
        simp only [Nat.zero_add, List.nil_append] at hrun k1 k2 k3
        exact ⟨_, _, _, hrun, k1, k2, k3⟩
       ·cases ha
     ·rename_i b o n c
      split at ha
      ·rename_i hm
       cases ha
       rcases hs.slice_inv with ⟨m', s', c', hb, rfl, hc, hn, _⟩ | ⟨rfl, _, a', c', rfl⟩ | ⟨rfl, rfl, a', rfl⟩
       ·exact ⟨β, _, w, zero hm _ _ _ rfl hn, hs, hr, Step.refl _ _ _⟩
       ·exact ⟨β, _, w, zero hm _ _ _ rfl (Nat.zero_le _), hs, hr, Step.refl _ _ _⟩
       ·exact ⟨β, _, w, zero hm _ _ _ rfl (Nat.zero_le _), hs, hr, Step.refl _ _ _⟩
      ·rename_i hm
       split at ha
       ·cases ha
       ·rename_i hdn
        have empty : ∀ a' : Addr, n = 0 → c = 0 → n + m ≤ maxLen → (n + m) * i.bytes ≤ 140737488355328 → ms = .slice (some a') 0 0 → ∃ β' mv w', (Builtin.append_ #[t, t2] ty #[ms, mx]).run P w = .ok mv w' ∧ VRel β' (qu (n + m) unk h.next) mv ∧
          Rel P β' (h.push (.cells news e true)) w' ∧ Step β h w β' (h.push (.cells news e true)) w' := by
         intro a' hn0 hc0 h1 h2 hms
         subst hn0 hc0
         have hrun := grow (some a') 0 0 [] hms (by omega) h1 h2 (by simp) (fun w' _ => by subst hms; simp [Builtin.firstCells, loadCells, loadCellsFrom])
         obtain ⟨k1, k2, k3⟩ := newRel 0 0 [] [] .nil (by simp) h1 (by omega)
         simp only [List.nil_append] at hrun k1 k2 k3
         exact ⟨_, _, _, hrun, k1, k2, k3⟩
        rcases hs.slice_inv with ⟨m', s', c', hb, rfl, hc, hn, hcm, hroom⟩ | ⟨_, rfl, _⟩ | ⟨rfl, rfl, a', rfl⟩
        ·split at ha
         ·rename_i hbd
          obtain ⟨hb1, hb2⟩ := hbd
          split at ha
          ·rename_i h00
           cases ha
           obtain ⟨rfl, rfl⟩ := h00
           have hc0 : c' = 0 := by
            rcases hc with hc | hc | hc
            ·simp [unk] at hc
            ·simp [qG] at hc
            ·exact hc.symm
           subst hc0
           exact empty _ rfl rfl hb1 hb2 rfl
          split at ha
          ·rename_i cs e' rw hg
           split at ha
           ·rename_i hcc
            obtain ⟨hc1, hcty⟩ := hcc
            have ho := hr.obj b m' s' _ hb hg
            obtain ⟨mc, fr, te, hmg, hsz, hrs, hrwO⟩ := ho
            have h1 := (hrs.drop o).take (n * i.size)
            have h2 : ((List.take cs.length (List.drop s'.off mc.toList)).drop o).take (n * i.size) = (mc.toList.drop (s'.off + o)).take (n * i.size) := by
             rw [List.drop_take, List.take_take, List.drop_drop]
             congr 1
             omega
            rw [h2] at h1
            have hlo' : ((mc.toList.drop (s'.off + o)).take (n * i.size)).length = n * i.size := by simp; omega
            have hol : ((cs.drop o).take (n * i.size)).length = n * i.size := by simp; omega
            have hfo : ∀ w' : World, w'.heap = w.heap → (Builtin.firstCells i.size n (.slice (some ⟨m', s'.off + o, none⟩) n c')).run P w' = .ok ((mc.toList.drop (s'.off + o)).take (n * i.size)).toArray w' :=
             fun w' hw => run_firstCells_some (P := P) w' i.size n ⟨m', s'.off + o, none⟩ n c' _ hlo' (jM (by rw [hw]; exact hmg) _ _)
            have growCase : c' < n + m → ∃ β' mv w', (Builtin.append_ #[t, t2] ty #[.slice (some ⟨m', s'.off + o, none⟩) n c', mx]).run P w = .ok mv w' ∧ VRel β' (qu (n + m) unk h.next) mv ∧
              Rel P β' (h.push (.cells ((cs.drop o).take (n * i.size) ++ news) e true)) w' ∧ Step β h w β' (h.push (.cells ((cs.drop o).take (n * i.size) ++ news) e true)) w' := by
             intro hlt
             have hrun := grow (some ⟨m', s'.off + o, none⟩) n c' _ rfl hlt hb1 hb2 hlo' hfo
             obtain ⟨k1, k2, k3⟩ := newRel n c' _ _ h1 hol hb1 hlt
             exact ⟨_, _, _, hrun, k1, k2, k3⟩
            split at ha
            ·rename_i hex
             cases ha
             have hcc' : c = c' := by
              rcases hc with hc | hc | hc
              ·exact absurd hc hex.1
              ·exact absurd (.inr hc) hdn
              ·exact hc
             exact growCase (by omega)
            ·rename_i hex
             split at ha
             ·rename_i hrw
              obtain ⟨hc2, rfl⟩ := hcty.resolve_left hex
              subst hrw
              cases ha
              obtain ⟨⟨hfz, hlh⟩, hte, hT, hz⟩ := hrwO rfl
              subst te
              have hzz : s'.z = i.size := by
               unfold szT at hc2
               rw [hz] at hc2
               simpa using hc2
              by_cases hfit : n + m ≤ c'
              ·-- in place
               have hroom' : s'.off + o + c' * i.size ≤ mc.size := by
                rcases hroom with q | q | q
                ·exact absurd (.inr q) hdn
                ·omega
                ·rw [hzz] at q; rw [hT]; exact q
               have hle : (s'.off + o + n * i.size) + 0 + mnews.length ≤ mc.size := by
                have : (n + m) * i.size ≤ c' * i.size := Nat.mul_le_mul_right _ hfit
                rw [Nat.add_mul] at this
                rw [hmlen]
                omega
               obtain ⟨w', mc', e1, e2, e3, e4, e5, e6, e7, e8, e9⟩ := Za (P := P) (m := m') (p := s'.off + o + n * i.size) (fr := fr) mnews 0 hmg hle hmone hfz
               have hrun : (Builtin.append_ #[t, t2] ty #[.slice (some ⟨m', s'.off + o, none⟩) n c', mx]).run P w = .ok (.slice (some ⟨m', s'.off + o, none⟩) (n + m) c') w' := by
                have hf := hfirst w rfl
                rcases hu2 with hu2 | ⟨e2, hu2⟩ <;>
                 simp [Builtin.append_, run_underlying hu, run_underlying hu2, sizeOf, typeInfo, hi, hlo, hf, hfit, Addr.add_lit, e1]
               have hmono := Place.add_mono m' ⟨s'.off + o, s'.T, s'.z⟩ hr.noNext
               obtain ⟨k2, k3⟩ := hr.moved (s' := ⟨s'.off + o, s'.T, s'.z⟩) (o' := .cells ((cs.drop o).take (n * i.size) ++ news) e' true) hb hg rfl e6 e5 e7 e8 e9 (by
                refine ⟨mc', fr, _, e2, ?_, ?_, fun _ => ⟨⟨fun k hk => hfz k (by omega), hlh⟩, rfl, by rw [e4]; exact hT, hz⟩⟩
                ·rw [List.length_append, hol, hlen, e4]
                 simp only
                 rw [hmlen] at hle
                 omega
                ·rw [List.length_append, hol, hlen]
                 simp only
                 have hx1 : (mc'.toList.drop (s'.off + o)).take (n * i.size + m * i.size) = (mc.toList.drop (s'.off + o)).take (n * i.size) ++ mnews := by
                  rw [e3, Nat.add_zero, xY _ _ _ (by simpa using hle)]
                  rw [List.drop_append_of_le_length (by simp; omega), List.drop_take]
                  have q1 : s'.off + o + n * i.size - (s'.off + o) = n * i.size := by omega
                  rw [q1, ← List.append_assoc, List.take_left' (by rw [List.length_append, hlo', hmlen])]
                 rw [hx1]
                 exact (h1.append hrn).mono hmono)
               refine ⟨_, _, w', hrun, ?_, k2, k3⟩
               have := VRel.slice (β := β.add h.next m' ⟨s'.off + o, s'.T, s'.z⟩) (o := 0) (n := n + m) (c := unk) (c' := c') (Place.add_same _ _ _ _) (.inl rfl) hfit hcm (.inr (.inr (by simp only; rw [hzz, ← hT]; omega)))
               simpa [qu] using this
              ·obtain ⟨β', mv, w', hrun, hv', hr', st'⟩ := growCase (by omega)
               have hlive : ((h.push (.cells ((cs.drop o).take (n * i.size) ++ news) e' true)).kill b) = (h.kill b).push (.cells ((cs.drop o).take (n * i.size) ++ news) e' true) := by
                have hbn := h.wf b _ hg
                simp only [Heap.push, Heap.kill, Heap.mk.injEq, true_and]
                funext k
                by_cases hk : k = b
                ·subst hk; simp; omega
                ·simp [hk]
               obtain ⟨k2, k3⟩ := hr'.kill b m' s' (st'.place b _ hb)
               rw [hlive] at k2 k3
               exact ⟨β', mv, w', hrun, hv', k2, st'.trans hr k3⟩
             ·cases ha
           ·cases ha
          ·cases ha
         ·cases ha
        ·exact absurd (.inl rfl) hdn
        ·split at ha
         ·rename_i hbd
          obtain ⟨hb1, hb2⟩ := hbd
          rw [if_pos ⟨rfl, rfl⟩] at ha
          cases ha
          exact empty _ rfl rfl hb1 hb2 rfl
         ·cases ha
     ·-- a slice whose capacity is its length
      split at ha
      ·rename_i b o n c hex
       obtain ⟨a, k, rfl, hu'⟩ := hs.exact_inv hex
       split at ha
       ·rename_i hm
        cases ha
        exact ⟨β, _, w, zero hm _ _ _ rfl (Nat.le_refl _), hs, hr, Step.refl _ _ _⟩
       ·rename_i hm
        split at ha
        ·rename_i hbd
         obtain ⟨hb1, hb2⟩ := hbd
         split at ha
         ·rename_i cs e' rw hg
          split at ha
          ·rename_i hcc
           cases ha
           obtain ⟨hc1, hn0⟩ := hcc
           rcases hu'.slice_inv with ⟨m', s', c', hb, heq, _⟩ | ⟨h0, _⟩ | ⟨h0, _⟩
           ·cases heq
            obtain ⟨mc, fr, te, hmg, hsz, hrs, _⟩ := hr.obj b m' s' _ hb hg
            have h1 := (hrs.drop o).take (n * i.size)
            have h2 : ((List.take cs.length (List.drop s'.off mc.toList)).drop o).take (n * i.size) = (mc.toList.drop (s'.off + o)).take (n * i.size) := by
             rw [List.drop_take, List.take_take, List.drop_drop]
             congr 1
             omega
            rw [h2] at h1
            have hlo' : ((mc.toList.drop (s'.off + o)).take (n * i.size)).length = n * i.size := by simp; omega
            have hol : ((cs.drop o).take (n * i.size)).length = n * i.size := by simp; omega
            have hfo : ∀ w' : World, w'.heap = w.heap → (Builtin.firstCells i.size n (.slice (some ⟨m', s'.off + o, none⟩) n n)).run P w' = .ok ((mc.toList.drop (s'.off + o)).take (n * i.size)).toArray w' :=
             fun w' hw => run_firstCells_some (P := P) w' i.size n ⟨m', s'.off + o, none⟩ n n _ hlo' (jM (by rw [hw]; exact hmg) _ _)
            have hrun := grow (some ⟨m', s'.off + o, none⟩) n n _ rfl (by omega) hb1 hb2 hlo' hfo
            obtain ⟨k1, k2, k3⟩ := newRel n n _ _ h1 hol hb1 (by omega)
            exact ⟨_, _, _, hrun, k1, k2, k3⟩
           ·omega
           ·omega
          ·cases ha
         ·cases ha
        ·cases ha
      ·cases ha
    ·cases ha
   ·cases ha
  ·cases ha
 ·cases ha
end Go.Sim
