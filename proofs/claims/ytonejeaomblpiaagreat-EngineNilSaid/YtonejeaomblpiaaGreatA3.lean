/- Operations that only reckon, all of them: pureV. -/
import Derived.Test.YtonejeaomblpiaaGreatA2
set_option linter.unusedSimpArgs false
set_option linter.unusedVariables false
set_option linter.defProp false
namespace Go.Sim
open Go.RowKit

/-- Binary operators on integers. -/
def intV (op : BinOp) (k : IntKind) (a b : Int) : Option Value :=
  match op with
  | .add => some (.int k (k.wrap (a + b)))
  | .sub => some (.int k (k.wrap (a - b)))
  | .mul => some (.int k (k.wrap (a * b)))
  | .quo => if b = 0 then none else some (.int k (k.wrap (a.tdiv b)))
  | .rem => if b = 0 then none else some (.int k (a.tmod b))
  | .and => some (.int k (bits .and k a b))
  | .or => some (.int k (bits .or k a b))
  | .xor => some (.int k (bits .xor k a b))
  | .andNot => some (.int k (bits .andNot k a b))
  | .eql => some (.bool (a == b))
  | .neq => some (.bool (a != b))
  | .lss => some (.bool (decide (a < b)))
  | .leq => some (.bool (decide (a ≤ b)))
  | .gtr => some (.bool (decide (b < a)))
  | .geq => some (.bool (decide (b ≤ a)))
  | _ => none
def shiftV (op : BinOp) (k : IntKind) (a b : Int) : Option Value :=
  if b < 0 then none else
  match op with
  | .shl => some (.int k (k.wrap (a * 2 ^ (min b.toNat k.bits))))
  | .shr => some (.int k (a.fdiv (2 ^ (min b.toNat k.bits))))
  | _ => none
def strV (op : BinOp) (a b : ByteArray) : Option Value :=
  match op with
  | .add => if a.size + b.size ≤ 9223372036854775807 then some (.string (a ++ b)) else none
  | .eql => some (.bool (a.toList == b.toList))
  | .neq => some (.bool (!(a.toList == b.toList)))
  | .lss => some (.bool (Op.bytesLess a.toList b.toList))
  | _ => none
def isShift : BinOp → Bool
  | .shl => true
  | .shr => true
  | _ => false

def binV (P : Program) (op : BinOp) (t : TypeId) (x y : Value) : Option Value :=
  match x, y with
  | .int k a, .int k' b => if isShift op then shiftV op k a b else if k = k' then intV op k a b else none
  | .string a, .string b => strV op a b
  | .agg xs, .agg ys =>
    if P.eqGuardType P.depth t then none else
    match op with
    | .eql => (eqV P 10000 t (.agg xs) (.agg ys)).map .bool
    | .neq => (eqV P 10000 t (.agg xs) (.agg ys)).map (fun r => .bool (!r))
    | _ => none
  | x, y =>
    match op with
    | .eql => (eqV P 10000 t x y).map .bool
    | .neq => (eqV P 10000 t x y).map (fun r => .bool (!r))
    | _ => none

theorem guard_int {op : BinOp} {t : TypeId} {x y : Operand} {k k' : IntKind} {a b : Int} : eqGuard op t x y (.int k a) (.int k' b) = pure () := by cases op <;> rfl
theorem guard_string {op : BinOp} {t : TypeId} {x y : Operand} {a : ByteArray} {v : Value} : eqGuard op t x y (.string a) v = pure () := by cases op <;> rfl
theorem guard_other {op : BinOp} {t : TypeId} {x y : Operand} {a b : Value} (h : ∀ xs ys, ¬ (a = .agg xs ∧ b = .agg ys)) (h2 : ¬ (a = .nilIface ∧ b = .nilIface)) : eqGuard op t x y a b = pure () := by
  unfold eqGuard
  cases op <;> cases a <;> cases b <;> first | rfl | (exact absurd ⟨rfl, rfl⟩ h2) | (exact absurd ⟨rfl, rfl⟩ (h _ _)) 

theorem run_int {P : Program} {op : BinOp} {t : TypeId} {k : IntKind} {a b : Int} {v : Value} (hs : isShift op = false) (h : intV op k a b = some v) (w : World) :
    (binOp op t (.int k a) (.int k b)).run P w = .ok v w := by
  cases op <;> simp only [intV] at h <;> first
    | (cases h; simp [binOp, Op.intArith, Op.intCmp]; done)
    | (cases h; simp only [binOp_and, binOp_or, binOp_xor, binOp_andNot, intBits_and, intBits_or, intBits_xor, intBits_andNot, Sem.run_pure]; done)
    | (split at h
       · cases h
       · rename_i hb; cases h; simp [binOp, Op.intDiv, hb])
    | (cases h)
theorem run_shift {P : Program} {op : BinOp} {t : TypeId} {k k' : IntKind} {a b : Int} {v : Value} (h : shiftV op k a b = some v) (w : World) :
    (binOp op t (.int k a) (.int k' b)).run P w = .ok v w := by
  unfold shiftV at h
  split at h
  · cases h
  · rename_i hb
    cases op <;> simp at h
    · subst h; simp [binOp, Op.shift, hb]
    · subst h; simp [binOp, Op.shift, hb]
theorem run_str {P : Program} {op : BinOp} {t : TypeId} {a b : ByteArray} {v : Value} (h : strV op a b = some v) (w : World) :
    (binOp op t (.string a) (.string b)).run P w = .ok v w := by
  cases op with
  | add =>
    simp only [strV] at h
    by_cases hb : a.size + b.size ≤ 9223372036854775807
    · rw [if_pos hb] at h
      cases h
      have : ¬ (((a.size + b.size : Nat) : Int) > IntKind.i64.max) := by rw [IntKind.max_i64]; omega
      rw [binOp_string_add]
      simp only [Op.stringOp]
      rw [if_neg this]
      rfl
    · rw [if_neg hb] at h; cases h
  | eql => simp only [strV] at h; cases h; simp [binOp, Op.stringOp]
  | neq => simp only [strV] at h; cases h; simp [binOp, Op.stringOp]
  | lss => simp only [strV] at h; cases h; simp [binOp, Op.stringOp]
  | _ => simp only [strV] at h; cases h
theorem eqV_niliface {P : Program} (d : Nat) (t : TypeId) : eqV P (d + 1) t .nilIface .nilIface = none := by
  unfold eqV
  cases P.underlying t with
  | none => rfl
  | some D => cases D <;> rfl

theorem binV_sound {P : Program} {β : Place} {op : BinOp} {t : TypeId} {x y : Value} {mx my : Value} {v : Value} (hx : VRel β x mx) (hy : VRel β y my) (h : binV P op t x y = some v) (ox oy : Operand) (w : World) :
    ((do eqGuard op t ox oy mx my; binOp op t mx my : Sem Value)).run P w = .ok v w ∧ constOk v = true := by
  have general : ∀ {x y mx my : Value}, VRel β x mx → VRel β y my → (∀ r : Bool, (∀ w, (Op.equalIn 10000 t mx my).run P w = .ok r w) → (eqGuard op t ox oy mx my).run P w = .ok () w → (∀ k a k' b, ¬ (mx = .int k a ∧ my = .int k' b)) → (∀ a b, ¬ (mx = .string a ∧ my = .string b)) → 
      (op = .eql → ((do eqGuard op t ox oy mx my; binOp op t mx my : Sem Value)).run P w = .ok (.bool r) w) ∧ (op = .neq → ((do eqGuard op t ox oy mx my; binOp op t mx my : Sem Value)).run P w = .ok (.bool (!r)) w)) := by
    intro x y mx my hx hy r hr hg h1 h2
    have hb1 : (binOp .eql t mx my).run P w = .ok (.bool r) w := by
      cases hx <;> cases hy <;> first
        | (exact absurd ⟨rfl, rfl⟩ (h1 _ _ _ _))
        | (exact absurd ⟨rfl, rfl⟩ (h2 _ _))
        | (simp only [binOp, Op.equal, Op.maxDepth, Sem.run_bind, hr, Result.andThen_ok, Sem.run_pure]; done)
        | (simp [binOp, Op.equal, Op.maxDepth, hr]; done)
    have hb2 : (binOp .neq t mx my).run P w = .ok (.bool (!r)) w := by
      cases hx <;> cases hy <;> first
        | (exact absurd ⟨rfl, rfl⟩ (h1 _ _ _ _))
        | (exact absurd ⟨rfl, rfl⟩ (h2 _ _))
        | (simp only [binOp, Op.equal, Op.maxDepth, Sem.run_bind, hr, Result.andThen_ok, Sem.run_pure]; done)
        | (simp [binOp, Op.equal, Op.maxDepth, hr]; done)
    exact ⟨fun e => by subst e; simp only [Sem.run_bind, hg, Result.andThen_ok, hb1], fun e => by subst e; simp only [Sem.run_bind, hg, Result.andThen_ok, hb2]⟩
  unfold binV at h
  split at h
  · cases hx; cases hy
    rename_i k a k' b
    simp only [guard_int, Sem.run_bind, Sem.run_pure, Result.andThen_ok]
    split at h
    · refine ⟨run_shift h w, ?_⟩
      unfold shiftV at h
      split at h
      · cases h
      · cases op <;> simp at h <;> subst h <;> rfl
    · rename_i hs
      split at h
      · rename_i hk
        subst hk
        refine ⟨run_int (by simpa using hs) h w, ?_⟩
        cases op <;> simp only [intV] at h <;> first | (cases h; rfl) | (split at h <;> cases h <;> rfl) | (cases h)
      · cases h
  · cases hx; cases hy
    simp only [guard_string, Sem.run_bind, Sem.run_pure, Result.andThen_ok]
    refine ⟨run_str h w, ?_⟩
    cases op <;> simp only [strV] at h <;> first | (cases h; rfl) | (split at h <;> cases h <;> rfl) | (cases h)
  · rename_i xs ys
    split at h
    · cases h
    · rename_i hgt
      obtain ⟨mxs, rfl, rx⟩ := VRel.agg_iff.1 hx
      obtain ⟨mys, rfl, ry⟩ := VRel.agg_iff.1 hy
      have hg := run_eqGuard_agg (P := P) w op t ox oy mxs mys (by simpa using hgt)
      cases he : eqV P 10000 t (.agg xs) (.agg ys) with
      | none => cases op <;> simp [he] at h
      | some r =>
        have hr := eqV_sound (P := P) 10000 hx hy he
        have := general hx hy r hr hg (by simp) (by simp)
        cases op <;> simp [he] at h
        · subst h; exact ⟨this.1 rfl, rfl⟩
        · subst h; exact ⟨this.2 rfl, rfl⟩
  · rename_i n1 n2 n3
    cases he : eqV P 10000 t x y with
    | none => cases op <;> simp [he] at h
    | some r =>
      have hr := eqV_sound (P := P) 10000 hx hy he
      have hnn : ¬ (mx = .nilIface ∧ my = .nilIface) := by
        rintro ⟨rfl, rfl⟩
        cases hx; cases hy
        rw [eqV_niliface 9999 t] at he
        cases he
      have hg : (eqGuard op t ox oy mx my).run P w = .ok () w := by
        rw [guard_other (fun xs ys => ?_) hnn]
        · rfl
        · rintro ⟨rfl, rfl⟩
          cases hx; cases hy
          exact n3 _ _ rfl rfl
      have := general hx hy r hr hg (by rintro k a k' b ⟨rfl, rfl⟩; cases hx; cases hy; exact n1 _ _ _ _ rfl rfl) (by rintro a b ⟨rfl, rfl⟩; cases hx; cases hy; exact n2 _ _ rfl rfl)
      cases op <;> simp [he] at h
      · subst h; exact ⟨this.1 rfl, rfl⟩
      · subst h; exact ⟨this.2 rfl, rfl⟩
end Go.Sim
