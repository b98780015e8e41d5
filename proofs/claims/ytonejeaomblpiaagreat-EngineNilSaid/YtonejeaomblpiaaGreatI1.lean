/- A heap that can be reckoned with, and the operations over it. -/
import Derived.Test.YtonejeaomblpiaaGreatA21
set_option linter.unusedSimpArgs false
set_option linter.unusedVariables false
set_option linter.defProp false
namespace Go.Sim
open Go.RowKit

/-! ### A tree of places -/
inductive Tr (α : Type) where
  | nil
  | node (v : Option α) (l r : Tr α)
namespace Tr
variable {α : Type}
def get : Tr α → Nat → Option α
  | .nil, _ => none
  | .node v l r, n => if n = 0 then v else if n % 2 = 1 then l.get (n / 2) else r.get (n / 2 - 1)
def set : Nat → Tr α → Nat → Option α → Tr α
  | 0, t, _, _ => t
  | d + 1, .nil, n, x => if n = 0 then .node x .nil .nil else if n % 2 = 1 then .node none (set d .nil (n / 2) x) .nil else .node none .nil (set d .nil (n / 2 - 1) x)
  | d + 1, .node v l r, n, x => if n = 0 then .node x l r else if n % 2 = 1 then .node v (set d l (n / 2) x) r else .node v l (set d r (n / 2 - 1) x)
theorem get_set (x : Option α) : ∀ (d : Nat) (t : Tr α) (n m : Nat), n + 1 < 2 ^ d → (set d t n x).get m = if m = n then x else t.get m
  | 0, t, n, m, h => by simp at h
  | d + 1, .nil, n, m, h => by
    have hp : 2 ^ (d + 1) = 2 * 2 ^ d := by rw [Nat.pow_succ]; omega
    unfold set
    by_cases h0 : n = 0
    · subst h0
      simp only [if_true, get]
      by_cases hm : m = 0 <;> simp [hm]
    · rw [if_neg h0]
      by_cases ho : n % 2 = 1
      · rw [if_pos ho]
        simp only [get]
        by_cases hm : m = 0
        · rw [if_pos hm, if_neg (by omega)]
        · rw [if_neg hm]
          by_cases hmo : m % 2 = 1
          · rw [if_pos hmo, get_set x d .nil (n / 2) (m / 2) (by omega)]
            by_cases he : m = n
            · rw [if_pos (by omega), if_pos he]
            · rw [if_neg (by omega), if_neg he]; rfl
          · rw [if_neg hmo, if_neg (by omega)]
      · rw [if_neg ho]
        simp only [get]
        by_cases hm : m = 0
        · rw [if_pos hm, if_neg (by omega)]
        · rw [if_neg hm]
          by_cases hmo : m % 2 = 1
          · rw [if_pos hmo, if_neg (by omega)]
          · rw [if_neg hmo, get_set x d .nil (n / 2 - 1) (m / 2 - 1) (by omega)]
            by_cases he : m = n
            · rw [if_pos (by omega), if_pos he]
            · rw [if_neg (by omega), if_neg he]; rfl
  | d + 1, .node v l r, n, m, h => by
    have hp : 2 ^ (d + 1) = 2 * 2 ^ d := by rw [Nat.pow_succ]; omega
    unfold set
    by_cases h0 : n = 0
    · subst h0
      simp only [if_true, get]
      by_cases hm : m = 0 <;> simp [hm]
    · rw [if_neg h0]
      by_cases ho : n % 2 = 1
      · rw [if_pos ho]
        simp only [get]
        by_cases hm : m = 0
        · rw [if_pos hm, if_neg (by omega)]; simp [hm]
        · rw [if_neg hm]
          by_cases hmo : m % 2 = 1
          · rw [if_pos hmo, get_set x d l (n / 2) (m / 2) (by omega)]
            by_cases he : m = n
            · rw [if_pos (by omega), if_pos he]
            · rw [if_neg (by omega), if_neg he]; simp [hm, hmo]
          · rw [if_neg hmo, if_neg (by omega)]; simp [hm, hmo]
      · rw [if_neg ho]
        simp only [get]
        by_cases hm : m = 0
        · rw [if_pos hm, if_neg (by omega)]; simp [hm]
        · rw [if_neg hm]
          by_cases hmo : m % 2 = 1
          · rw [if_pos hmo, if_neg (by omega)]; simp [hm, hmo]
          · rw [if_neg hmo, get_set x d r (n / 2 - 1) (m / 2 - 1) (by omega)]
            by_cases he : m = n
            · rw [if_pos (by omega), if_pos he]
            · rw [if_neg (by omega), if_neg he]; simp [hm, hmo]
end Tr

/-! ### The heap -/
structure PH where
  next : Nat
  t : Tr AObj
def PH.get (p : PH) (b : Nat) : Option AObj := if b < p.next then p.t.get b else none
def PH.heap (p : PH) : Heap := ⟨p.next, p.get, fun b o h => by
  unfold PH.get at h
  split at h
  · assumption
  · cases h⟩
def PH.room : Nat := 1073741824
def PH.push (p : PH) (o : AObj) : PH := ⟨p.next + 1, Tr.set 31 p.t p.next (some o)⟩
def PH.set (p : PH) (b : Nat) (o : AObj) : PH := ⟨p.next, Tr.set 31 p.t b (some o)⟩
def PH.kill (p : PH) (b : Nat) : PH := ⟨p.next, Tr.set 31 p.t b none⟩
theorem Heap.ext' {h h' : Heap} (hn : h.next = h'.next) (hg : ∀ b, h.get b = h'.get b) : h = h' := by
  cases h; cases h'
  simp only at hn hg
  subst hn
  have := funext hg
  subst this
  rfl
theorem PH.push_heap {p : PH} (o : AObj) (h : p.next < PH.room) : (p.push o).heap = p.heap.push o := by
  refine Heap.ext' rfl fun b => ?_
  show (p.push o).get b = if b = p.next then some o else p.get b
  unfold PH.get PH.push
  simp only
  rw [Tr.get_set _ 31 _ _ _ (by unfold PH.room at h; omega)]
  by_cases hb : b = p.next
  · simp [hb]
  · by_cases hl : b < p.next
    · rw [if_pos (by omega), if_neg hb, if_neg hb, if_pos hl]
    · rw [if_neg (by omega), if_neg hb, if_neg hl]
theorem PH.set_heap {p : PH} {b : Nat} {o o' : AObj} (hg : p.get b = some o') (h : p.next ≤ PH.room) : (p.set b o).heap = p.heap.set b o := by
  have hlt : b < p.next := by
    unfold PH.get at hg
    split at hg
    · assumption
    · cases hg
  refine Heap.ext' rfl fun c => ?_
  show (p.set b o).get c = if c = b then (p.get b).map (fun _ => o) else p.get c
  rw [hg]
  unfold PH.get PH.set
  simp only
  rw [Tr.get_set _ 31 _ _ _ (by unfold PH.room at h; omega)]
  by_cases hb : c = b
  · subst hb; simp [hlt]
  · simp [hb]
theorem PH.kill_heap {p : PH} {b : Nat} (hlt : b < p.next) (h : p.next ≤ PH.room) : (p.kill b).heap = p.heap.kill b := by
  refine Heap.ext' rfl fun c => ?_
  show (p.kill b).get c = if c = b then none else p.get c
  unfold PH.get PH.kill
  simp only
  rw [Tr.get_set _ 31 _ _ _ (by unfold PH.room at h; omega)]
  by_cases hb : c = b
  · subst hb; simp
  · simp [hb]
end Go.Sim
