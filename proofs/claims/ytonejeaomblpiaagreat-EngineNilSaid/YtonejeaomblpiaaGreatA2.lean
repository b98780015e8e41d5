/- Operations that only reckon: their abstract values, and that the machine's are the like. -/
import Derived.ChangeKeysEq
import Derived.Test.YtonejeaomblpiaaGreatA1
import Derived.Laws.Tables
import Derived.Laws.Slices
import Derived.Laws.StructEq
import Derived.Laws.Pointers
import Derived.Laws.Unary
import Derived.WalkSpells
set_option linter.unusedSimpArgs false
set_option linter.unusedVariables false
set_option linter.defProp false
namespace Go.Sim
open Go.RowKit

def constOk : Value → Bool
  | .bool _ => true
  | .int _ _ => true
  | .string _ => true
  | .pointer none => true
  | .map none => true
  | .chan none => true
  | .nilFunc => true
  | .nilIface => true
  | .slice none n c => n == 0 && c == 0
  | .tuple xs => xs.size == 0
  | _ => false

theorem VRel.const {β : Place} {v : Value} (h : constOk v = true) : VRel β v v := by
  cases v with
  | bool b => exact .bool b
  | int k n => exact .int k n
  | string s => exact .string s
  | pointer a => cases a with
    | none => exact .nilptr
    | some a => simp [constOk] at h
  | slice a n c => cases a with
    | none => simp [constOk] at h; obtain ⟨rfl, rfl⟩ := h; exact .nilslice
    | some a => simp [constOk] at h
  | map r => cases r with
    | none => exact .nilmap
    | some a => simp [constOk] at h
  | chan r => cases r with
    | none => exact .nilchan
    | some a => simp [constOk] at h
  | nilFunc => exact .nilfunc
  | nilIface => exact .niliface
  | tuple xs =>
    have : xs = #[] := by simpa [constOk] using h
    subst this
    exact VRel.tuple_iff.2 ⟨#[], rfl, .nil⟩
  | float k b => simp [constOk] at h
  | complex k a b => simp [constOk] at h
  | func f a b => simp [constOk] at h
  | iface t v => simp [constOk] at h
  | agg xs => simp [constOk] at h

theorem VRel.undef {β : Place} : VRel β undef undef := VRel.const rfl

def aggT (P : Program) (t : TypeId) : Bool :=
  match P.underlying t with
  | some (.struct _) => true
  | some (.array _ _) => true
  | _ => false
def szT (P : Program) (t : TypeId) : Option Nat := (P.info? t).map (·.size)

theorem run_sizeT {P : Program} {t : TypeId} {n : Nat} (h : szT P t = some n) (w : World) : (sizeOf t).run P w = .ok n w := by
  unfold szT at h
  cases hi : P.info? t with
  | none => simp [hi] at h
  | some i => simp [hi] at h; simp [sizeOf, typeInfo, hi, h]
theorem run_isAgg {P : Program} {t : TypeId} {d : TypeDesc} (h : P.underlying t = some d) (w : World) : (isAgg t).run P w = .ok (aggT P t) w := by
  unfold isAgg aggT
  rw [Sem.run_bind, run_underlying h w]
  cases d <;> simp [h]

/-- A part of a struct's or an array's cells. -/
def partV (P : Program) (t : TypeId) (cs : List Value) (off : Nat) : Option Value :=
  match P.underlying t with
  | none => none
  | some _ =>
    if aggT P t then
      match szT P t with
      | some n => if off + n ≤ cs.length then some (.agg ((cs.drop off).take n).toArray) else none
      | none => none
    else cs[off]?

theorem partV_sound {P : Program} {β : Place} {t : TypeId} {cs : List Value} {mcs : Array Value} {off : Nat} {v : Value} (hr : VRels β cs mcs.toList) (h : partV P t cs off = some v) (w : World) :
    ∃ mv, (part t mcs off).run P w = .ok mv w ∧ VRel β v mv := by
  unfold partV at h
  cases hu : P.underlying t with
  | none => simp [hu] at h
  | some d =>
    simp only [hu] at h
    by_cases ha : aggT P t = true
    · simp only [ha, if_true] at h
      cases hs : szT P t with
      | none => simp [hs] at h
      | some n =>
        simp only [hs] at h
        split at h
        · cases h
          refine ⟨_, by simp only [part, Sem.run_bind, run_isAgg hu w, ha, Result.andThen_ok, if_true, Sem.run_ite, run_sizeT hs w]; rfl, ?_⟩
          refine VRel.agg_iff.2 ⟨_, rfl, ?_⟩
          have := (hr.drop off).take n
          simpa [Array.toList_extract, List.extract_eq_take_drop] using this
        · cases h
    · simp only [ha] at h
      obtain ⟨mv, e, r⟩ := hr.get h
      refine ⟨mv, ?_, r⟩
      have e' : mcs[off]? = some mv := by simpa using e
      simp only [part, Sem.run_bind, run_isAgg hu w, Result.andThen_ok, e']
      simp [ha]

/-- '==' of values without addresses. -/
def eqFieldsV (E : TypeId → Value → Value → Option Bool) (P : Program) (xs ys : List Value) : List Field → Option Bool
  | [] => some true
  | f :: fs =>
    if f.name ≠ "_" then
      match partV P f.type xs f.offset, partV P f.type ys f.offset with
      | some a, some b =>
        match E f.type a b with
        | some r => (eqFieldsV E P xs ys fs).map (r && ·)
        | none => none
      | _, _ => none
    else eqFieldsV E P xs ys fs

def eqItemsV (E : Value → Value → Option Bool) (P : Program) (e : TypeId) (c : Nat) (xs ys : List Value) : List Nat → Option Bool
  | [] => some true
  | i :: is =>
    match partV P e xs (i * c), partV P e ys (i * c) with
    | some a, some b =>
      match E a b with
      | some r => (eqItemsV E P e c xs ys is).map (r && ·)
      | none => none
    | _, _ => none

def eqV (P : Program) : Nat → TypeId → Value → Value → Option Bool
  | 0, _, _, _ => none
  | d + 1, t, x, y =>
    match P.underlying t, x, y with
    | some .bool, .bool a, .bool b => some (a == b)
    | some (.int _), .int k a, .int k' b => if k = k' then some (a == b) else none
    | some .string, .string a, .string b => some (a.toList == b.toList)
    | some (.struct fs), .agg xs, .agg ys => if P.stoodInHeld t then none else eqFieldsV (eqV P d) P xs.toList ys.toList fs.toList
    | some (.array n e), .agg xs, .agg ys => if (P.info? e).isSome then eqItemsV (eqV P d e) P e (P.cellsOf e) xs.toList ys.toList (List.range n) else none
    | some (.pointer _), .pointer none, .pointer b => some b.isNone
    | some (.pointer _), .pointer (some _), .pointer none => some false
    | some (.slice _), .slice none _ _, .slice b _ _ => some b.isNone
    | some (.slice _), .slice (some _) _ _, .slice none _ _ => some false
    | some (.map _ _), .map none, .map b => some b.isNone
    | some (.map _ _), .map (some _), .map none => some false
    | some (.func _ _ _), .nilFunc, .nilFunc => some true
    | some (.func _ _ _), .nilFunc, .func _ _ _ => some false
    | some (.func _ _ _), .func _ _ _, .nilFunc => some false
    | _, _, _ => none

theorem eqV_sound {P : Program} {β : Place} (d : Nat) : ∀ {t : TypeId} {x y mx my : Value} {r : Bool}, VRel β x mx → VRel β y my → eqV P d t x y = some r → ∀ w, (Op.equalIn d t mx my).run P w = .ok r w := by
  induction d with
  | zero => intro t x y mx my r _ _ h; simp [eqV] at h
  | succ d ih =>
    intro t x y mx my r hx hy h w
    unfold eqV at h
    cases hu : P.underlying t with
    | none => simp [hu] at h
    | some D =>
      rw [hu] at h
      have hru := run_underlying hu w
      split at h
      · rename_i e; cases e; cases hx; cases hy; cases h; simp [Op.equalIn, hru]
      · rename_i e; cases e; cases hx; cases hy
        split at h
        · rename_i hk; cases h; simp [Op.equalIn, hru, hk]
        · cases h
      · rename_i e; cases e; cases hx; cases hy; cases h; simp [Op.equalIn, hru, beq_toListBytes]
      · rename_i fs xs ys e
        cases e
        split at h
        · cases h
        · rename_i hst
          obtain ⟨mxs, rfl, rx⟩ := VRel.agg_iff.1 hx
          obtain ⟨mys, rfl, ry⟩ := VRel.agg_iff.1 hy
          have hf : P.fieldsOf t = fs := by simp [Program.fieldsOf, hu]
          rw [run_equalIn_struct w d t mxs mys (by rw [hf]; exact hu) (by simpa using hst), hf]
          clear hru
          generalize fs.toList = l at h
          induction l generalizing r with
          | nil => simp [eqFieldsV] at h; subst h; simp [Op.eqFields]
          | cons f l ihl =>
            unfold eqFieldsV at h
            split at h
            · rename_i hn
              split at h
              · rename_i a b ha hb
                obtain ⟨ma, ea, ra⟩ := partV_sound rx ha w
                obtain ⟨mb, eb, rb⟩ := partV_sound ry hb w
                split at h
                · rename_i q hq
                  have e1 := ih ra rb hq w
                  cases hrest : eqFieldsV (eqV P d) P xs.toList ys.toList l with
                  | none => simp [hrest] at h
                  | some r2 =>
                    simp [hrest] at h
                    have h2 := ihl hrest
                    simp only [Op.eqFields, hn, if_true, Sem.run_bind, ea, eb, e1, Result.andThen_ok, ne_eq, not_false_eq_true, Sem.run_ite]
                    cases q
                    · simp at h; subst h; simp
                    · simp at h; subst h; simpa using h2
                · cases h
              · cases h
            · rename_i hn
              simp only [Op.eqFields, hn, if_false]
              exact ihl h
      · rename_i n e xs ys e0
        cases e0
        split at h
        · rename_i hi
          obtain ⟨i, hi⟩ := Option.isSome_iff_exists.1 hi
          obtain ⟨mxs, rfl, rx⟩ := VRel.agg_iff.1 hx
          obtain ⟨mys, rfl, ry⟩ := VRel.agg_iff.1 hy
          rw [run_equalIn_array w d mxs mys hu hi]
          clear hru
          generalize List.range n = l at h ⊢
          induction l generalizing r with
          | nil => simp [eqItemsV] at h; subst h; simp [Op.eqItems]
          | cons f l ihl =>
            unfold eqItemsV at h
            split at h
            · rename_i a b ha hb
              obtain ⟨ma, ea, ra⟩ := partV_sound rx ha w
              obtain ⟨mb, eb, rb⟩ := partV_sound ry hb w
              split at h
              · rename_i q hq
                have e1 := ih ra rb hq w
                cases hrest : eqItemsV (eqV P d e) P e (P.cellsOf e) xs.toList ys.toList l with
                | none => simp [hrest] at h
                | some r2 =>
                  simp [hrest] at h
                  have h2 := ihl hrest
                  simp only [Op.eqItems, Sem.run_bind, ea, eb, e1, Result.andThen_ok, Sem.run_ite]
                  cases q
                  · simp at h; subst h; simp
                  · simp at h; subst h; simpa using h2
              · cases h
            · cases h
        · cases h
      · rename_i e; cases e; cases hx; cases hy <;> (cases h; simp [Op.equalIn, hru])
      · rename_i e; cases e; cases hx; cases hy; cases h; simp [Op.equalIn, hru]
      · rename_i e; cases e; cases hx; cases hy <;> (cases h; simp [Op.equalIn, hru])
      · rename_i e; cases e; cases hy; cases hx <;> (cases h; simp [Op.equalIn, hru])
      · rename_i e; cases e; cases hx; cases hy <;> (cases h; simp [Op.equalIn, hru])
      · rename_i e; cases e; cases hy; cases hx; cases h; simp [Op.equalIn, hru]
      · rename_i e; cases e; cases hx <;> cases hy <;> (cases h; simp [Op.equalIn, hru])
      · rename_i e; cases e; cases hx <;> cases hy <;> (cases h; simp [Op.equalIn, hru])
      · rename_i e; cases e; cases hx <;> cases hy <;> (cases h; simp [Op.equalIn, hru])
      · cases h
end Go.Sim
