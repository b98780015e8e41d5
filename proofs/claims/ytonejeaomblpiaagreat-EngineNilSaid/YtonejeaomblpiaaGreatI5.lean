/- Code, reckoned: regions that draw, jobs, functions. -/
import Derived.Test.YtonejeaomblpiaaGreatI4
import Derived.Scope
set_option linter.unusedSimpArgs false
set_option linter.unusedVariables false
set_option linter.defProp false
namespace Go.Sim
open Go.RowKit

/-! ### Are two values the same? -/
def bytesEqX : List UInt8 → List UInt8 → Bool
  | [], [] => true
  | a :: r, b :: s => a.toNat == b.toNat && bytesEqX r s
  | _, _ => false
theorem bytesEqX_sound : ∀ {r s : List UInt8}, bytesEqX r s = true → r = s
  | [], [], _ => rfl
  | a :: r, b :: s, h => by
    simp only [bytesEqX, Bool.and_eq_true, beq_iff_eq] at h
    rw [UInt8.toNat_inj.1 h.1, bytesEqX_sound h.2]
  | [], _ :: _, h => by cases h
  | _ :: _, [], h => by cases h
def kindEq : IntKind → IntKind → Bool := fun a b => decide (a = b)
def addrEq (a b : Option Addr) : Bool :=
  match a, b with
  | none, none => true
  | some ⟨x, y, none⟩, some ⟨x', y', none⟩ => x == x' && y == y'
  | _, _ => false
theorem addrEq_sound {a b : Option Addr} (h : addrEq a b = true) : a = b := by
  unfold addrEq at h
  split at h
  · rfl
  · simp only [Bool.and_eq_true, beq_iff_eq] at h
    rw [h.1, h.2]
  · cases h
mutual
def valEq : Value → Value → Bool
  | .bool a, .bool b => a == b
  | .int k n, .int k' n' => kindEq k k' && decide (n = n')
  | .string s, .string t => bytesEqX s.data.toList t.data.toList
  | .pointer a, .pointer b => addrEq a b
  | .slice a n c, .slice a' n' c' => addrEq a a' && n == n' && c == c'
  | .map a, .map b => decide (a = b)
  | .func (.func k) ⟨f⟩ ⟨c⟩, .func (.func k') ⟨f'⟩ ⟨c'⟩ => k == k' && valsEq f f' && valsEq c c'
  | .nilFunc, .nilFunc => true
  | .iface t v, .iface t' v' => t == t' && valEq v v'
  | .nilIface, .nilIface => true
  | .agg ⟨a⟩, .agg ⟨b⟩ => valsEq a b
  | .tuple ⟨a⟩, .tuple ⟨b⟩ => valsEq a b
  | _, _ => false
def valsEq : List Value → List Value → Bool
  | [], [] => true
  | a :: r, b :: s => valEq a b && valsEq r s
  | _, _ => false
end
mutual
theorem valEq_sound : ∀ (a b : Value), valEq a b = true → a = b
  | .bool a, b, h => by
    cases b <;> simp_all [valEq]
  | .int k n, b, h => by
    cases b <;> simp_all [valEq, kindEq]
  | .string s, b, h => by
    cases b <;> simp only [valEq] at h <;> try (cases h; done)
    rename_i t
    have := bytesEqX_sound h
    obtain ⟨⟨s⟩⟩ := s
    obtain ⟨⟨t⟩⟩ := t
    simp only at this
    rw [this]
  | .pointer a, b, h => by
    cases b <;> simp only [valEq] at h <;> try (cases h; done)
    rw [addrEq_sound h]
  | .slice a n c, b, h => by
    cases b <;> simp only [valEq, Bool.and_eq_true, beq_iff_eq] at h <;> try (cases h; done)
    rw [addrEq_sound h.1.1, h.1.2, h.2]
  | .map a, b, h => by
    cases b <;> simp_all [valEq]
  | .func f fs cs, b, h => by
    obtain ⟨fs⟩ := fs
    obtain ⟨cs⟩ := cs
    cases f <;> cases b <;> try (simp only [valEq] at h; cases h; done)
    rename_i k f' fs' cs'
    obtain ⟨fs'⟩ := fs'
    obtain ⟨cs'⟩ := cs'
    cases f' <;> simp only [valEq, Bool.and_eq_true, beq_iff_eq] at h <;> try (cases h; done)
    rw [h.1.1, valsEq_sound _ _ h.1.2, valsEq_sound _ _ h.2]
  | .nilFunc, b, h => by
    cases b <;> simp_all [valEq]
  | .iface t v, b, h => by
    cases b <;> simp only [valEq, Bool.and_eq_true, beq_iff_eq] at h <;> try (cases h; done)
    rw [h.1, valEq_sound _ _ h.2]
  | .nilIface, b, h => by
    cases b <;> simp_all [valEq]
  | .agg a, b, h => by
    obtain ⟨a⟩ := a
    cases b <;> try (simp only [valEq] at h; cases h; done)
    rename_i b
    obtain ⟨b⟩ := b
    rw [valsEq_sound a b (by simpa only [valEq] using h)]
  | .tuple a, b, h => by
    obtain ⟨a⟩ := a
    cases b <;> try (simp only [valEq] at h; cases h; done)
    rename_i b
    obtain ⟨b⟩ := b
    rw [valsEq_sound a b (by simpa only [valEq] using h)]
  | .float _ _, b, h => by cases b <;> simp [valEq] at h
  | .complex _ _ _, b, h => by cases b <;> simp [valEq] at h
  | .chan _, b, h => by cases b <;> simp [valEq] at h
theorem valsEq_sound : ∀ (a b : List Value), valsEq a b = true → a = b
  | [], b, h => by cases b <;> simp_all [valsEq]
  | x :: r, b, h => by
    cases b with
    | nil => simp [valsEq] at h
    | cons y s =>
      simp only [valsEq, Bool.and_eq_true] at h
      rw [valEq_sound x y h.1, valsEq_sound r s h.2]
end
end Go.Sim
