/- A simulation logic over the model: abstract values and heaps, how they stand to the machine's. -/
import Derived.Below
import Derived.Tactics
import Derived.Orders
import Derived.Laws.AppendOwn
import Derived.Laws.Rows
set_option linter.unusedSimpArgs false
set_option linter.unusedVariables false
set_option linter.defProp false
namespace Go.Sim
open Go.RowKit

/-- The capacity of a slice of which only a lower bound is known. -/
def unk : Nat := 9223372036854775808
/-- The capacity of an empty slice whose place isn't known: nothing can be done with it but asking its length. -/
def dud : Nat := 9223372036854775809

/-- The capacity of a slice of which only a lower bound is known, and to which nothing is appended. -/
def noapp : Nat := 9223372036854775810

/-- Where an abstract block begins inside a machine's block, how many cells that one has, and how many an element has. -/
structure Sh where
  off : Nat
  T : Nat
  z : Nat
/-- Where abstract blocks lie in the machine's memory. -/
abbrev Place := Nat → Option (Nat × Sh)

def Fn.plain : Fn → Bool
  | .yield _ => false
  | _ => true

/-- An abstract value and the machine's. -/
inductive VRel (β : Place) : Value → Value → Prop
  | bool (b : Bool) : VRel β (.bool b) (.bool b)
  | int (k : IntKind) (n : Int) : VRel β (.int k n) (.int k n)
  | string (s : ByteArray) : VRel β (.string s) (.string s)
  | nilptr : VRel β (.pointer none) (.pointer none)
  | ptr {b o m : Nat} {s : Sh} (h : β b = some (m, s)) : VRel β (.pointer (some ⟨b, o, none⟩)) (.pointer (some ⟨m, s.off + o, none⟩))
  | nilslice : VRel β (.slice none 0 0) (.slice none 0 0)
  | slice {b o m n c c' : Nat} {s : Sh} (h : β b = some (m, s)) (hc : c = unk ∨ c = noapp ∨ c = c') (hn : n ≤ c') (hm : c' ≤ maxLen) (hr : c = noapp ∨ c' = 0 ∨ s.off + o + c' * s.z ≤ s.T) :
      VRel β (.slice (some ⟨b, o, none⟩) n c) (.slice (some ⟨m, s.off + o, none⟩) n c')
  | dud {a a' : Addr} {c' : Nat} : VRel β (.slice (some a) 0 Sim.dud) (.slice (some a') 0 c')
  | nilmap : VRel β (.map none) (.map none)
  | map {r m : Nat} {s : Sh} (h : β r = some (m, s)) : VRel β (.map (some r)) (.map (some m))
  | nilchan : VRel β (.chan none) (.chan none)
  | chan {r m : Nat} {s : Sh} (h : β r = some (m, s)) : VRel β (.chan (some r)) (.chan (some m))
  | nilfunc : VRel β .nilFunc .nilFunc
  | func {f : Fn} {xs ys xs' ys' : Array Value} (hf : Fn.plain f = true) (hx : xs.size = xs'.size) (hy : ys.size = ys'.size)
      (h : ∀ (i : Nat) (v v' : Value), xs[i]? = some v → xs'[i]? = some v' → VRel β v v')
      (h' : ∀ (i : Nat) (v v' : Value), ys[i]? = some v → ys'[i]? = some v' → VRel β v v') : VRel β (.func f xs ys) (.func f xs' ys')
  | yield {l m : Nat} {s : Sh} (h : β l = some (m, s)) : VRel β (.func (.yield l) #[] #[]) (.func (.yield m) #[] #[])
  | niliface : VRel β .nilIface .nilIface
  | iface {t : TypeId} {v v' : Value} (h : VRel β v v') : VRel β (.iface t v) (.iface t v')
  | agg {xs xs' : Array Value} (hx : xs.size = xs'.size)
      (h : ∀ (i : Nat) (v v' : Value), xs[i]? = some v → xs'[i]? = some v' → VRel β v v') : VRel β (.agg xs) (.agg xs')
  | tuple {xs xs' : Array Value} (hx : xs.size = xs'.size)
      (h : ∀ (i : Nat) (v v' : Value), xs[i]? = some v → xs'[i]? = some v' → VRel β v v') : VRel β (.tuple xs) (.tuple xs')

theorem VRel.mono {β β' : Place} (hβ : ∀ b x, β b = some x → β' b = some x) {v v' : Value} (h : VRel β v v') : VRel β' v v' := by
  induction h with
  | bool b => exact .bool b
  | int k n => exact .int k n
  | string s => exact .string s
  | nilptr => exact .nilptr
  | ptr h => exact .ptr (hβ _ _ h)
  | nilslice => exact .nilslice
  | slice h hc hn hm hr => exact .slice (hβ _ _ h) hc hn hm hr
  | dud => exact .dud
  | nilmap => exact .nilmap
  | map h => exact .map (hβ _ _ h)
  | nilchan => exact .nilchan
  | chan h => exact .chan (hβ _ _ h)
  | nilfunc => exact .nilfunc
  | func hf hx hy _ _ ih ih' => exact .func hf hx hy ih ih'
  | yield h => exact .yield (hβ _ _ h)
  | niliface => exact .niliface
  | iface _ ih => exact .iface ih
  | agg hx _ ih => exact .agg hx ih
  | tuple hx _ ih => exact .tuple hx ih

/-- Lists of values, one by one. -/
inductive VRels (β : Place) : List Value → List Value → Prop
  | nil : VRels β [] []
  | cons {v v' : Value} {l l' : List Value} (h : VRel β v v') (t : VRels β l l') : VRels β (v :: l) (v' :: l')

theorem VRels.mono {β β' : Place} (hβ : ∀ b x, β b = some x → β' b = some x) {l l' : List Value} (h : VRels β l l') : VRels β' l l' := by
  induction h with
  | nil => exact .nil
  | cons h _ ih => exact .cons (h.mono hβ) ih
theorem VRels.length {β : Place} {l l' : List Value} (h : VRels β l l') : l.length = l'.length := by
  induction h with
  | nil => rfl
  | cons _ _ ih => simp [ih]
theorem VRels.append {β : Place} {l l' m m' : List Value} (h : VRels β l l') (k : VRels β m m') : VRels β (l ++ m) (l' ++ m') := by
  induction h with
  | nil => exact k
  | cons h _ ih => exact .cons h ih
theorem VRels.get {β : Place} {l l' : List Value} (h : VRels β l l') : ∀ {i : Nat} {v : Value}, l[i]? = some v → ∃ v', l'[i]? = some v' ∧ VRel β v v' := by
  induction h with
  | nil => intro i v e; simp at e
  | cons h _ ih =>
    intro i v e
    cases i with
    | zero => simp at e; subst e; exact ⟨_, rfl, h⟩
    | succ i => simp at e; simpa using ih e
theorem VRels.get' {β : Place} {l l' : List Value} (h : VRels β l l') : ∀ {i : Nat} {v' : Value}, l'[i]? = some v' → ∃ v, l[i]? = some v ∧ VRel β v v' := by
  induction h with
  | nil => intro i v e; simp at e
  | cons h _ ih =>
    intro i v e
    cases i with
    | zero => simp at e; subst e; exact ⟨_, rfl, h⟩
    | succ i => simp at e; simpa using ih e
theorem VRels.of_get {β : Place} : ∀ {l l' : List Value}, l.length = l'.length → (∀ (i : Nat) (v v' : Value), l[i]? = some v → l'[i]? = some v' → VRel β v v') → VRels β l l'
  | [], [], _, _ => .nil
  | v :: l, v' :: l', hl, h => .cons (h 0 v v' rfl rfl) (VRels.of_get (by simpa using hl) fun i a b ha hb => h (i + 1) a b (by simpa using ha) (by simpa using hb))
  | [], _ :: _, hl, _ => by simp at hl
  | _ :: _, [], hl, _ => by simp at hl
theorem VRels.take {β : Place} {l l' : List Value} (h : VRels β l l') : ∀ n, VRels β (l.take n) (l'.take n) := by
  induction h with
  | nil => intro n; simpa using VRels.nil
  | cons h _ ih => intro n; cases n with
    | zero => exact .nil
    | succ n => exact .cons h (ih n)
theorem VRels.drop {β : Place} {l l' : List Value} (h : VRels β l l') : ∀ n, VRels β (l.drop n) (l'.drop n) := by
  induction h with
  | nil => intro n; simpa using VRels.nil
  | cons h t ih => intro n; cases n with
    | zero => exact .cons h t
    | succ n => exact ih n
theorem VRels.set {β : Place} {l l' : List Value} (h : VRels β l l') {v v' : Value} (hv : VRel β v v') : ∀ i, VRels β (l.set i v) (l'.set i v') := by
  induction h with
  | nil => intro n; exact .nil
  | cons h t ih => intro n; cases n with
    | zero => exact .cons hv t
    | succ n => exact .cons h (ih n)
theorem VRel.agg_iff {β : Place} {xs : Array Value} {v : Value} : VRel β (.agg xs) v ↔ ∃ xs', v = .agg xs' ∧ VRels β xs.toList xs'.toList := by
  constructor
  · intro h
    cases h with
    | agg hx h => exact ⟨_, rfl, VRels.of_get (by simpa using hx) fun i v v' e e' => h i v v' (by simpa using e) (by simpa using e')⟩
  · rintro ⟨xs', rfl, h⟩
    exact .agg (by simpa using h.length) fun i v v' e e' => by
      obtain ⟨u, hu, hr⟩ := h.get (i := i) (v := v) (by simpa using e)
      have : u = v' := by simpa [e'] using hu.symm
      exact this ▸ hr
theorem VRel.tuple_iff {β : Place} {xs : Array Value} {v : Value} : VRel β (.tuple xs) v ↔ ∃ xs', v = .tuple xs' ∧ VRels β xs.toList xs'.toList := by
  constructor
  · intro h
    cases h with
    | tuple hx h => exact ⟨_, rfl, VRels.of_get (by simpa using hx) fun i v v' e e' => h i v v' (by simpa using e) (by simpa using e')⟩
  · rintro ⟨xs', rfl, h⟩
    exact .tuple (by simpa using h.length) fun i v v' e e' => by
      obtain ⟨u, hu, hr⟩ := h.get (i := i) (v := v) (by simpa using e)
      have : u = v' := by simpa [e'] using hu.symm
      exact this ▸ hr
theorem VRel.func_iff {β : Place} {f : Fn} {xs ys : Array Value} {v : Value} (hf : Fn.plain f = true) : VRel β (.func f xs ys) v ↔
    ∃ xs' ys', v = .func f xs' ys' ∧ VRels β xs.toList xs'.toList ∧ VRels β ys.toList ys'.toList := by
  constructor
  · intro h
    cases h with
    | func hf hx hy h h' => exact ⟨_, _, rfl, VRels.of_get (by simpa using hx) fun i v v' e e' => h i v v' (by simpa using e) (by simpa using e'),
        VRels.of_get (by simpa using hy) fun i v v' e e' => h' i v v' (by simpa using e) (by simpa using e')⟩
    | yield h => cases hf
  · rintro ⟨xs', ys', rfl, h, h'⟩
    refine .func hf (by simpa using h.length) (by simpa using h'.length) (fun i v v' e e' => ?_) (fun i v v' e e' => ?_)
    · obtain ⟨u, hu, hr⟩ := h.get (i := i) (v := v) (by simpa using e)
      have : u = v' := by simpa [e'] using hu.symm
      exact this ▸ hr
    · obtain ⟨u, hu, hr⟩ := h'.get (i := i) (v := v) (by simpa using e)
      have : u = v' := by simpa [e'] using hu.symm
      exact this ▸ hr
theorem VRel.yield_inv {β : Place} {l : Nat} {xs ys : Array Value} {v : Value} (h : VRel β (.func (.yield l) xs ys) v) : ∃ m s, β l = some (m, s) ∧ v = .func (.yield m) #[] #[] := by
  cases h with
  | func hf _ _ _ _ => cases hf
  | yield h => exact ⟨_, _, h, rfl⟩
theorem VRel.cells {β : Place} {v v' : Value} (h : VRel β v v') : VRels β v.cells.toList v'.cells.toList := by
  cases h with
  | agg hx h => exact VRels.of_get (by simpa [Value.cells] using hx) fun i v v' e e' => h i v v' (by simpa [Value.cells] using e) (by simpa [Value.cells] using e')
  | bool b => exact .cons (.bool b) .nil
  | int k n => exact .cons (.int k n) .nil
  | string s => exact .cons (.string s) .nil
  | nilptr => exact .cons .nilptr .nil
  | ptr h => exact .cons (.ptr h) .nil
  | nilslice => exact .cons .nilslice .nil
  | slice h hc hn hm hr => exact .cons (.slice h hc hn hm hr) .nil
  | dud => exact .cons .dud .nil
  | nilmap => exact .cons .nilmap .nil
  | map h => exact .cons (.map h) .nil
  | nilchan => exact .cons .nilchan .nil
  | chan h => exact .cons (.chan h) .nil
  | nilfunc => exact .cons .nilfunc .nil
  | func hf hx hy h h' => exact .cons (.func hf hx hy h h') .nil
  | yield h => exact .cons (.yield h) .nil
  | niliface => exact .cons .niliface .nil
  | iface h => exact .cons (.iface h) .nil
  | tuple hx h => exact .cons (.tuple hx h) .nil
theorem VRel.oneCell {β : Place} {v v' : Value} (h : VRel β v v') : v'.oneCell' = v.oneCell' := by
  cases h <;> rfl

/-! ### The abstract heap -/
inductive AObj where
  | cells (cs : List Value) (elem : TypeId) (rw : Bool)
  | map (es : List MapEntry) (clock : Nat)
  | iter (m : Option Nat) (since : Nat) (seen : List Nat) (last : Nat)
  | striter (s : ByteArray) (pos : Nat)
  | chan (cap : Nat) (buf : List Value)
  | loop (st : LoopState) (pend : Option Code) (n : Nat) (sl : List (Nat × Value)) (ps : List Tmp) (assign body : Code)

def AObj.isLoop : AObj → Bool
  | .loop .. => true
  | _ => false
def look (t : Nat) : List (Nat × Value) → Option Value
  | [] => none
  | (t', v) :: r => if t' = t then some v else look t r
def AObj.rw : AObj → Bool
  | .cells _ _ r => r
  | _ => true

structure Heap where
  next : Nat
  get : Nat → Option AObj
  wf : ∀ b o, get b = some o → b < next

def Heap.push (h : Heap) (o : AObj) : Heap :=
  ⟨h.next + 1, fun b => if b = h.next then some o else h.get b, fun b o' hb => by
    by_cases e : b = h.next
    · omega
    · simp [e] at hb; have := h.wf b o' hb; omega⟩
/-- Block b, if it is there, is o. -/
def Heap.set (h : Heap) (b : Nat) (o : AObj) : Heap :=
  ⟨h.next, fun b' => if b' = b then (h.get b).map (fun _ => o) else h.get b', fun b' o' hb => by
    by_cases e : b' = b
    · subst e
      cases hg : h.get b' with
      | none => simp [hg] at hb
      | some o2 => exact h.wf _ _ hg
    · simp [e] at hb; exact h.wf b' o' hb⟩
def Heap.kill (h : Heap) (b : Nat) : Heap :=
  ⟨h.next, fun b' => if b' = b then none else h.get b', fun b' o' hb => by
    by_cases e : b' = b
    · simp [e] at hb
    · simp [e] at hb; exact h.wf b' o' hb⟩
@[simp] theorem Heap.next_push (h : Heap) (o : AObj) : (h.push o).next = h.next + 1 := rfl
@[simp] theorem Heap.next_set (h : Heap) (b : Nat) (o : AObj) : (h.set b o).next = h.next := rfl
@[simp] theorem Heap.next_kill (h : Heap) (b : Nat) : (h.kill b).next = h.next := rfl
theorem Heap.get_push (h : Heap) (o : AObj) (b : Nat) : (h.push o).get b = if b = h.next then some o else h.get b := rfl
theorem Heap.get_push_self (h : Heap) (o : AObj) : (h.push o).get h.next = some o := by simp [get_push]
theorem Heap.get_push_of {h : Heap} {o o' : AObj} {b : Nat} (hb : h.get b = some o') : (h.push o).get b = some o' := by
  rw [get_push, if_neg (by have := h.wf _ _ hb; omega)]; exact hb
theorem Heap.get_push_ne (h : Heap) (o : AObj) {b : Nat} (hb : b ≠ h.next) : (h.push o).get b = h.get b := by rw [get_push, if_neg hb]
theorem Heap.get_set (h : Heap) (b : Nat) (o : AObj) (b' : Nat) : (h.set b o).get b' = if b' = b then (h.get b).map (fun _ => o) else h.get b' := rfl
theorem Heap.get_set_ne (h : Heap) {b : Nat} (o : AObj) {b' : Nat} (e : b' ≠ b) : (h.set b o).get b' = h.get b' := by rw [get_set, if_neg e]
theorem Heap.get_set_self {h : Heap} {b : Nat} {o o' : AObj} (e : h.get b = some o') : (h.set b o).get b = some o := by simp [get_set, e]
theorem Heap.get_kill (h : Heap) (b b' : Nat) : (h.kill b).get b' = if b' = b then none else h.get b' := rfl
theorem Heap.get_kill_ne (h : Heap) {b b' : Nat} (e : b' ≠ b) : (h.kill b).get b' = h.get b' := by rw [get_kill, if_neg e]

/-- A map's entries, one by one: the keys are the same. -/
inductive ERels (β : Place) : List MapEntry → List MapEntry → Prop
  | nil : ERels β [] []
  | cons {k v v' : Value} {n : Nat} {l l' : List MapEntry} (hk : VRel β k k) (h : VRel β v v') (t : ERels β l l') : ERels β (⟨k, v, n⟩ :: l) (⟨k, v', n⟩ :: l')

/-- What is ranged over. -/
def IRel (β : Place) : Option Nat → Option Nat → Prop
  | none, none => True
  | some b, some m => ∃ s, β b = some (m, s)
  | _, _ => False
theorem IRel.mono {β β' : Place} (hβ : ∀ b x, β b = some x → β' b = some x) {b m : Option Nat} (h : IRel β b m) : IRel β' b m := by
  cases b <;> cases m <;> simp only [IRel] at h ⊢
  obtain ⟨s, e⟩ := h
  exact ⟨s, hβ _ _ e⟩
/-- An abstract object and the machine's block. -/
def ORel (P : Program) (β : Place) (w : World) (m : Nat) (s : Sh) : AObj → Prop
  | .cells cs e rw => ∃ mc fr te, w.heap[m]? = some (.cells mc te fr) ∧ s.off + cs.length ≤ mc.size ∧
      VRels β cs ((mc.toList.drop s.off).take cs.length) ∧ (rw = true → ((∀ i, i < mc.size → ¬ (fr.1 ≤ i ∧ i < fr.2)) ∧ fr.1 ≤ fr.2) ∧ te = e ∧ mc.size = s.T ∧ (P.info? e).map (·.size) = some s.z)
  | .map es clock => ∃ mes, w.heap[m]? = some (.map mes clock) ∧ ERels β es mes.toList
  | .iter b since seen last => s.off = 0 ∧ ∃ mb, w.heap[m]? = some (.mapIter mb since seen.toArray last) ∧ IRel β b mb
  | .striter t pos => s.off = 0 ∧ w.heap[m]? = some (.stringIter t pos)
  | .chan cap buf => s.off = 0 ∧ ∃ mbuf sn rc, w.heap[m]? = some (.chan cap mbuf false sn rc false) ∧ VRels β buf mbuf.toList
  | .loop st pend n sl ps x y => s.off = 0 ∧ ∃ fn tmps d, w.heap[m]? = some (.loop { state := st, pending := pend, fn := fn, tmps := tmps, params := ps.toArray, assign := x, body := y, defers := d }) ∧
      tmps.size = n ∧ ∀ t v, look t sl = some v → ∃ mv, tmps[t]? = some mv ∧ VRel β v mv

structure Rel (P : Program) (β : Place) (h : Heap) (w : World) : Prop where
  dom : ∀ b m s, β b = some (m, s) → b < h.next ∧ m < w.heap.size
  obj : ∀ b m s o, β b = some (m, s) → h.get b = some o → ORel P β w m s o
  inj : ∀ b b' m s s' o o', β b = some (m, s) → β b' = some (m, s') → h.get b = some o → h.get b' = some o' → o.rw = true → b = b'

/-- Machine blocks that may be written through live abstract blocks. -/
def RwAt (β : Place) (h : Heap) (m : Nat) : Prop := ∃ b s o, β b = some (m, s) ∧ h.get b = some o ∧ o.rw = true

/-- How the abstract and the machine's state have gone on. -/
structure Step (β : Place) (h : Heap) (w : World) (β' : Place) (h' : Heap) (w' : World) : Prop where
  place : ∀ b x, β b = some x → β' b = some x
  stays : ∀ b, b < h.next → β b = none → β' b = none ∧ h'.get b = h.get b
  next : h.next ≤ h'.next
  live : ∀ b o', b < h.next → h'.get b = some o' → ∃ o, h.get b = some o ∧ o.rw = o'.rw
  new : ∀ b m s, β b = none → β' b = some (m, s) → w.heap.size ≤ m ∨ RwAt β h m
  os : w'.os = w.os
  tape : w'.tape = w.tape
  output : w'.output = w.output
  size : w.heap.size ≤ w'.heap.size
  frame : ∀ m, m < w.heap.size → ¬ RwAt β h m → w'.heap[m]? = w.heap[m]?
  loops : ∀ (m : Nat) (r : Loop), w.heap[m]? = some (.loop r) → ∃ r', w'.heap[m]? = some (.loop r')

theorem Step.refl (β : Place) (h : Heap) (w : World) : Step β h w β h w :=
  ⟨fun _ _ e => e, fun _ _ e => ⟨e, rfl⟩, Nat.le_refl _, fun _ o' _ e => ⟨o', e, rfl⟩, fun _ _ _ e e' => by simp [e] at e', rfl, rfl, rfl, Nat.le_refl _, fun _ _ _ => rfl, fun _ r e => ⟨r, e⟩⟩

theorem Step.rwAt {P : Program} {β β1 : Place} {h h1 : Heap} {w w1 : World} (hr : Rel P β h w) (st : Step β h w β1 h1 w1) {m : Nat} (hm : m < w.heap.size) (h2 : RwAt β1 h1 m) : RwAt β h m := by
  obtain ⟨b, s, o, e, g, hrw⟩ := h2
  cases hb : β b with
  | some x =>
    have e2 := st.place b x hb
    rw [e] at e2
    cases e2
    obtain ⟨o0, g0, hrw0⟩ := st.live b o (hr.dom b m s hb).1 g
    exact ⟨b, s, o0, hb, g0, hrw0.trans hrw⟩
  | none =>
    rcases st.new b m s hb e with hge | h3
    · omega
    · exact h3

/-- Blocks that no abstract object speaks of stay. -/
theorem Step.deferred {P : Program} {β β1 : Place} {h h1 : Heap} {w w1 : World} (hr : Rel P β h w) (st : Step β h w β1 h1 w1) {m : Nat} {q : Option (List Deferred)} (e : w.heap[m]? = some (.deferred q)) : w1.heap[m]? = some (.deferred q) := by
  rw [st.frame m (Array.getElem?_eq_some_iff.1 e).1 ?_, e]
  rintro ⟨b, s, o, hb, hg, _⟩
  have := hr.obj b m s o hb hg
  cases o with
  | cells => obtain ⟨_, _, _, h1, _⟩ := this; rw [e] at h1; cases h1
  | map => obtain ⟨_, h1, _⟩ := this; rw [e] at h1; cases h1
  | iter => obtain ⟨_, _, h1, _⟩ := this; rw [e] at h1; cases h1
  | striter => obtain ⟨_, h1⟩ := this; rw [e] at h1; cases h1
  | chan => obtain ⟨_, _, _, _, h1, _⟩ := this; rw [e] at h1; cases h1
  | loop => obtain ⟨_, _, _, _, h1, _⟩ := this; rw [e] at h1; cases h1

theorem Step.trans {P : Program} {β β1 β2 : Place} {h h1 h2 : Heap} {w w1 w2 : World} (hr : Rel P β h w) (a : Step β h w β1 h1 w1) (c : Step β1 h1 w1 β2 h2 w2) : Step β h w β2 h2 w2 := by
  refine ⟨fun b x e => c.place b x (a.place b x e), fun b hb e => ?_, Nat.le_trans a.next c.next, fun b o' hb g => ?_, fun b m s e e' => ?_,
    c.os.trans a.os, c.tape.trans a.tape, c.output.trans a.output, Nat.le_trans a.size c.size, fun m hm hn => ?_, fun m r e => let ⟨r1, e1⟩ := a.loops m r e; c.loops m r1 e1⟩
  · obtain ⟨e1, g1⟩ := a.stays b hb e
    obtain ⟨e2, g2⟩ := c.stays b (Nat.lt_of_lt_of_le hb a.next) e1
    exact ⟨e2, g2.trans g1⟩
  · obtain ⟨o1, g1, r1⟩ := c.live b o' (Nat.lt_of_lt_of_le hb a.next) g
    obtain ⟨o0, g0, r0⟩ := a.live b o1 hb g1
    exact ⟨o0, g0, r0.trans r1⟩
  · cases e1 : β1 b with
    | some x =>
      have := c.place b x e1
      rw [e'] at this
      cases this
      exact a.new b m s e e1
    | none =>
      rcases c.new b m s e1 e' with hge | hrw
      · exact .inl (Nat.le_trans a.size hge)
      · rcases Nat.lt_or_ge m w.heap.size with hlt | hge
        · exact .inr (a.rwAt hr hlt hrw)
        · exact .inl hge
  · rw [c.frame m (Nat.lt_of_lt_of_le hm a.size) (fun hrw => hn (a.rwAt hr hm hrw)), a.frame m hm hn]
end Go.Sim
