/- Operations that only reckon: the whole table, pureV. -/
import Derived.Test.YtonejeaomblpiaaGreatA4
set_option linter.unusedSimpArgs false
set_option linter.unusedVariables false
set_option linter.defProp false
namespace Go.Sim
open Go.RowKit

theorem fold_set_rel {β : Place} : ∀ {l l' : List Value}, VRels β l l' → ∀ (k off : Nat) (cs ms : Array Value), VRels β cs.toList ms.toList →
    VRels β ((l.zipIdx k).foldl (fun cs (p : Value × Nat) => cs.setIfInBounds (off + p.2) p.1) cs).toList ((l'.zipIdx k).foldl (fun cs (p : Value × Nat) => cs.setIfInBounds (off + p.2) p.1) ms).toList := by
  intro l l' h
  induction h with
  | nil => intro k off cs ms hr; simpa using hr
  | cons h t ih =>
    intro k off cs ms hr
    simp only [List.zipIdx_cons, List.foldl_cons]
    refine ih (k + 1) off _ _ ?_
    simpa using hr.set h (off + k)

inductive PRels (β : Place) : List (Nat × Value) → List (Nat × Value) → Prop
  | nil : PRels β [] []
  | cons {i : Nat} {v v' : Value} {l l' : List (Nat × Value)} (h : VRel β v v') (t : PRels β l l') : PRels β ((i, v) :: l) ((i, v') :: l')

theorem fill_rel {β : Place} {place : Nat → Option (Nat × Nat)} : ∀ {ps ms : List (Nat × Value)}, PRels β ps ms → ∀ {cs mcs r : Array Value}, VRels β cs.toList mcs.toList → Instr.fill place cs ps = some r →
    ∃ r', Instr.fill place mcs ms = some r' ∧ VRels β r.toList r'.toList := by
  intro ps ms h
  induction h with
  | nil => intro cs mcs r hr e; simp [Instr.fill] at e; subst e; exact ⟨mcs, rfl, hr⟩
  | @cons i v v' l l' h t ih =>
    intro cs mcs r hr e
    have hs : mcs.size = cs.size := by have := hr.length; simpa using this.symm
    have hv : v'.cells.size = v.cells.size := by have := h.cells.length; simpa using this.symm
    unfold Instr.fill at e ⊢
    cases hp : place i with
    | none => simp [hp] at e
    | some p =>
      obtain ⟨off, size⟩ := p
      simp only [hp] at e ⊢
      rw [hs, hv]
      split at e
      · cases e
      · rename_i hc
        rw [if_neg hc]
        refine ih ?_ e
        have := fold_set_rel h.cells 0 off cs mcs hr
        rw [← Array.foldl_toList, ← Array.foldl_toList]
        simpa using this

def allConst (v : Value) : Bool := v.cells.toList.all constOk
theorem VRels.const {β : Place} : ∀ {l : List Value}, l.all constOk = true → VRels β l l
  | [], _ => .nil
  | v :: l, h => by
    simp only [List.all_cons, Bool.and_eq_true] at h
    exact .cons (VRel.const h.1) (VRels.const h.2)

/-- A type's zero value holds no addresses. -/
def zeroOk (P : Program) (t : TypeId) : Bool :=
  match P.info? t with
  | some i => match i.zero with | some z => allConst z | none => false
  | none => false

def buildV (P : Program) (t : TypeId) (parts : List (Nat × Value)) : Option Value :=
  if zeroOk P t then (P.built t parts).map .agg else none

theorem buildV_sound {P : Program} {β : Place} {t : TypeId} {ps : List (Nat × Value)} {ms : Array (Nat × Value)} {v : Value} (hr : PRels β ps ms.toList) (h : buildV P t ps = some v) (w : World) :
    ∃ mv, (Instr.build t ms).run P w = .ok mv w ∧ VRel β v mv := by
  unfold buildV at h
  split at h
  · rename_i hz
    cases hb : P.built t ps with
    | none => simp [hb] at h
    | some cells =>
      simp [hb] at h
      subst h
      have : ∃ r', P.built t ms.toList = some r' ∧ VRels β cells.toList r'.toList := by
        unfold zeroOk at hz
        unfold Program.built at hb ⊢
        cases hi : P.info? t with
        | none => simp [hi] at hb
        | some it =>
          simp only [hi] at hz hb ⊢
          cases hzz : it.zero with
          | none => simp [hzz] at hz
          | some z =>
            simp only [hzz] at hz
            cases hu : P.underlying t with
            | none => simp [hu] at hb
            | some D =>
              simp only [hu, hzz] at hb ⊢
              cases D <;> try (simp at hb; done)
              case array n e =>
                cases he : P.info? e with
                | none => simp [he] at hb
                | some ie =>
                  simp only [he, hzz] at hb ⊢
                  exact fill_rel hr (VRels.const hz) hb
              case struct fs =>
                cases hp : fs.toList.mapM (fun f => (P.info? f.type).map fun i => (f.offset, i.size)) with
                | none => simp [hp] at hb
                | some places =>
                  simp only [hp, hzz] at hb ⊢
                  exact fill_rel hr (VRels.const hz) hb
      obtain ⟨r', e, hr'⟩ := this
      exact ⟨_, run_build w t ms r' e, VRel.agg_iff.2 ⟨_, rfl, hr'⟩⟩
  · cases h

/-! ### Operands -/
abbrev Rho := Operand → Option Value
/-- What is known of the operands, and the machine's. -/
def RhoRel (β : Place) (ρ : Rho) (μ : Operand → Value) : Prop := ∀ x v, ρ x = some v → VRel β v (μ x)

def allV (ρ : Rho) : List Operand → Option (List Value)
  | [] => some []
  | x :: xs => match ρ x, allV ρ xs with
    | some v, some vs => some (v :: vs)
    | _, _ => none
theorem allV_rel {β : Place} {ρ : Rho} {μ : Operand → Value} (hρ : RhoRel β ρ μ) : ∀ {xs : List Operand} {vs : List Value}, allV ρ xs = some vs → VRels β vs (xs.map μ)
  | [], vs, h => by cases h; exact .nil
  | x :: xs, vs, h => by
    unfold allV at h
    cases hx : ρ x with
    | none => simp [hx] at h
    | some v =>
      cases hr : allV ρ xs with
      | none => simp [hx, hr] at h
      | some r =>
        simp only [hx, hr] at h
        cases h
        exact .cons (hρ x v hx) (allV_rel hρ hr)
def allP (ρ : Rho) : List (Nat × Operand) → Option (List (Nat × Value))
  | [] => some []
  | (i, x) :: xs => match ρ x, allP ρ xs with
    | some v, some vs => some ((i, v) :: vs)
    | _, _ => none
theorem allP_rel {β : Place} {ρ : Rho} {μ : Operand → Value} (hρ : RhoRel β ρ μ) : ∀ {xs : List (Nat × Operand)} {vs : List (Nat × Value)}, allP ρ xs = some vs → PRels β vs (xs.map fun p => (p.1, μ p.2))
  | [], vs, h => by cases h; exact .nil
  | (i, x) :: xs, vs, h => by
    unfold allP at h
    cases hx : ρ x with
    | none => simp [hx] at h
    | some v =>
      cases hr : allP ρ xs with
      | none => simp [hx, hr] at h
      | some r =>
        simp only [hx, hr] at h
        cases h
        exact .cons (hρ x v hx) (allP_rel hρ hr)

/-- An operand that may be missing. -/
def optV (ρ : Rho) : Option Operand → Option (Option Value)
  | none => some none
  | some x => (ρ x).map some
theorem optV_rel {β : Place} {ρ : Rho} {μ : Operand → Value} (hρ : RhoRel β ρ μ) {x : Option Operand} {v : Option Value} (h : optV ρ x = some v) : ORels β v (x.map μ) := by
  cases x with
  | none => cases h; exact .none
  | some x =>
    simp only [optV] at h
    cases hx : ρ x with
    | none => simp [hx] at h
    | some v => simp [hx] at h; subst h; exact .some (hρ x v hx)

def minV : List Value → Option Value
  | [.int k a, .int k' b] => if k = k' then some (.int k (if b < a then b else a)) else none
  | [.int k a, .int k' b, .int k'' c] => if k = k' ∧ k = k'' then some (.int k (if c < (if b < a then b else a) then c else (if b < a then b else a))) else none
  | _ => none
def maxV : List Value → Option Value
  | [.int k a, .int k' b] => if k = k' then some (.int k (if b > a then b else a)) else none
  | [.int k a, .int k' b, .int k'' c] => if k = k' ∧ k = k'' then some (.int k (if c > (if b > a then b else a) then c else (if b > a then b else a))) else none
  | _ => none
def lenV (P : Program) (t : TypeId) : Value → Option Value
  | .string s => match P.underlying t with | some .string => some (goInt s.size) | _ => none
  | .slice _ n _ => match P.underlying t with | some (.slice _) => some (goInt n) | _ => none
  | .agg _ => match P.underlying t with | some (.array n _) => some (goInt n) | _ => none
  | _ => none

def pureBuiltin (P : Program) (b : Builtin) (ts : List TypeId) (vs : List Value) : Option Value :=
  match b with
  | .min => minV vs
  | .max => maxV vs
  | .len => match ts, vs with | [t], [v] => lenV P t v | _, _ => none
  | _ => none

def pureV (P : Program) (o : Op) (ρ : Rho) : Option Value :=
  match o with
  | .move x => ρ x
  | .assign x => ρ x
  | .pick c a b => match ρ c with
    | some (.bool t) => if t then ρ a else ρ b
    | _ => none
  | .build t parts => match allP ρ parts.toList with
    | some ps => buildV P t ps
    | none => none
  | .field t x f => match ρ x with
    | some v => fieldV P t v f
    | none => none
  | .fieldAddr t x f => match ρ x with
    | some v => fieldAddrV P t v f
    | none => none
  | .unOp op _ x => match ρ x with
    | some v => unV op v
    | none => none
  | .binOp op t x y _ => match ρ x, ρ y with
    | some a, some b => binV P op t a b
    | _, _ => none
  | .convert s d x => match ρ x with
    | some v => convV P s d v
    | none => none
  | .makeFunc fn first cap => if Fn.plain fn then match allV ρ first.toList, allV ρ cap.toList with
    | some a, some b => some (.func fn a.toArray b.toArray)
    | _, _ => none
    else none
  | .indexAddr t x i => match ρ x, ρ i with
    | some a, some b => indexAddrV P t a b
    | _, _ => none
  | .index t x i => match ρ x, ρ i with
    | some a, some b => indexV P t a b
    | _, _ => none
  | .extract x i => match ρ x with
    | some (.tuple vs) => vs[i]?
    | _ => none
  | .nilCheck x => match ρ x with
    | some (.pointer (some a)) => some (.pointer (some a))
    | _ => none
  | .call { callee := .builtin b, args := args, argTypes := ts } => match allV ρ args.toList with
    | some vs => pureBuiltin P b ts.toList vs
    | none => none
  | _ => none

theorem minV_sound {P : Program} {β : Place} {vs : List Value} {ms : List Value} {v : Value} (hr : VRels β vs ms) (h : minV vs = some v) (ts : Array TypeId) (ty : TypeId) (w : World) : (Builtin.min_ ts ty ms.toArray).run P w = .ok v w ∧ constOk v = true := by
  unfold minV at h
  split at h
  · cases hr with
    | cons h1 t1 => cases t1 with
      | cons h2 t2 =>
        cases t2; cases h1; cases h2
        split at h
        · cases h; exact ⟨by simp [Builtin.min_, Builtin.min2], rfl⟩
        · cases h
  · cases hr with
    | cons h1 t1 => cases t1 with
      | cons h2 t2 => cases t2 with
        | cons h3 t3 =>
          cases t3; cases h1; cases h2; cases h3
          split at h
          · cases h; exact ⟨by simp [Builtin.min_, Builtin.min2], rfl⟩
          · cases h
  · cases h
theorem maxV_sound {P : Program} {β : Place} {vs : List Value} {ms : List Value} {v : Value} (hr : VRels β vs ms) (h : maxV vs = some v) (ts : Array TypeId) (ty : TypeId) (w : World) : (Builtin.max_ ts ty ms.toArray).run P w = .ok v w ∧ constOk v = true := by
  unfold maxV at h
  split at h
  · cases hr with
    | cons h1 t1 => cases t1 with
      | cons h2 t2 =>
        cases t2; cases h1; cases h2
        split at h
        · cases h; exact ⟨by simp [Builtin.max_, Builtin.max2], rfl⟩
        · cases h
  · cases hr with
    | cons h1 t1 => cases t1 with
      | cons h2 t2 => cases t2 with
        | cons h3 t3 =>
          cases t3; cases h1; cases h2; cases h3
          split at h
          · cases h; exact ⟨by simp [Builtin.max_, Builtin.max2], rfl⟩
          · cases h
  · cases h
theorem lenV_sound {P : Program} {β : Place} {t : TypeId} {x mx v : Value} (hx : VRel β x mx) (h : lenV P t x = some v) (ty : TypeId) (w : World) : (Builtin.len_ #[t] ty #[mx]).run P w = .ok v w ∧ constOk v = true := by
  unfold lenV at h
  split at h
  · cases hx
    split at h
    · rename_i hu; cases h; exact ⟨by simp [Builtin.len_, run_underlying hu], rfl⟩
    · cases h
  · split at h
    · rename_i hu; cases h
      refine ⟨?_, rfl⟩
      cases hx <;> simp [Builtin.len_, run_underlying hu]
    · cases h
  · obtain ⟨mxs, rfl, _⟩ := VRel.agg_iff.1 hx
    split at h
    · rename_i hu; cases h; exact ⟨by simp [Builtin.len_, run_underlying hu], rfl⟩
    · cases h
  · cases h

theorem pureV_sound {P : Program} {β : Place} {ρ : Rho} {μ : Operand → Value} {o : Oper} {v : Value} (hρ : RhoRel β ρ μ) (h : pureV P o.op ρ = some v) (w : World) :
    ∃ mv, (execOp μ o).run P w = .ok (.value mv) w ∧ VRel β v mv := by
  unfold pureV at h
  unfold execOp
  split at h
  · rename_i x he; rw [he]; exact ⟨_, rfl, hρ _ _ h⟩
  · rename_i x he; rw [he]; exact ⟨_, rfl, hρ _ _ h⟩
  · rename_i c a b he
    rw [he]
    split at h
    · rename_i t hc
      have := hρ _ _ hc
      generalize hm : μ c = mc at this
      cases this
      cases t
      · exact ⟨_, by simp [hm, asBool], hρ _ _ h⟩
      · exact ⟨_, by simp [hm, asBool], hρ _ _ h⟩
    · cases h
  · rename_i t parts he
    rw [he]
    split at h
    · rename_i ps hp
      have hr := allP_rel hρ hp
      obtain ⟨mv, e, r⟩ := buildV_sound (ms := parts.map fun (p : Nat × Operand) => (p.1, μ p.2)) (by simpa using hr) h w
      exact ⟨mv, by simp [e], r⟩
    · cases h
  · rename_i t x f he
    rw [he]
    split at h
    · rename_i a ha
      obtain ⟨mv, e, r⟩ := fieldV_sound (hρ _ _ ha) h w
      exact ⟨mv, by simp [e], r⟩
    · cases h
  · rename_i t x f he
    rw [he]
    split at h
    · rename_i a ha
      obtain ⟨mv, e, r⟩ := fieldAddrV_sound (hρ _ _ ha) h w
      exact ⟨mv, by simp [e], r⟩
    · cases h
  · rename_i op t x he
    rw [he]
    split at h
    · rename_i a ha
      obtain ⟨e, r⟩ := unV_sound (P := P) (hρ _ _ ha) h w
      exact ⟨v, by simp [e], r⟩
    · cases h
  · rename_i op t x y t2 he
    rw [he]
    split at h
    · rename_i a b ha hb
      obtain ⟨e, r⟩ := binV_sound (P := P) (hρ _ _ ha) (hρ _ _ hb) h x y w
      exact ⟨v, by rw [Sem.run_bind, e]; rfl, VRel.const r⟩
    · cases h
  · rename_i s d x he
    rw [he]
    split at h
    · rename_i a ha
      obtain ⟨e, r⟩ := convV_sound (P := P) (hρ _ _ ha) h w
      exact ⟨v, by simp [e], r⟩
    · cases h
  · rename_i fn first cap he
    rw [he]
    split at h
    · rename_i hf
      split at h
      · rename_i a b ha hb
        cases h
        refine ⟨_, rfl, (VRel.func_iff hf).2 ⟨_, _, rfl, ?_, ?_⟩⟩
        · simpa using allV_rel hρ ha
        · simpa using allV_rel hρ hb
      · cases h
    · cases h
  · rename_i t x i he
    rw [he]
    split at h
    · rename_i a b ha hb
      obtain ⟨mv, e, r⟩ := indexAddrV_sound (hρ _ _ ha) (hρ _ _ hb) h w
      exact ⟨mv, by simp [e], r⟩
    · cases h
  · rename_i t x i he
    rw [he]
    split at h
    · rename_i a b ha hb
      obtain ⟨mv, e, r⟩ := indexV_sound (hρ _ _ ha) (hρ _ _ hb) h w
      exact ⟨mv, by simp [e], r⟩
    · cases h
  · rename_i x i he
    rw [he]
    split at h
    · rename_i vs hv
      obtain ⟨ms, hm, r⟩ := VRel.tuple_iff.1 (hρ _ _ hv)
      obtain ⟨mv, e, rv⟩ := r.get (i := i) (v := v) (by simpa using h)
      exact ⟨mv, by simp [hm, Instr.extract, show ms[i]? = some mv by simpa using e], rv⟩
    · cases h
  · rename_i x he
    rw [he]
    split at h
    · rename_i a ha
      cases h
      have := hρ _ _ ha
      generalize hm : μ x = mx at this
      cases this with
      | ptr hb => exact ⟨_, by simp [hm], .ptr hb⟩
    · cases h
  · rename_i b args ts he
    rw [he]
    split at h
    · rename_i vs hv
      have hr := allV_rel hρ hv
      have key : ∀ {res : Value}, constOk res = true → (builtin b ts o.type (args.map fun | .const _ => true | _ => false) (args.map μ)).run P w = .ok (.value res) w → ∃ mv, ((do let d ← resolve μ { callee := .builtin b, args := args, argTypes := ts } o.type; invoke d.target d.args : Sem Next)).run P w = .ok (.value mv) w ∧ VRel β res mv := by
        intro res hres hb
        refine ⟨res, ?_, VRel.const hres⟩
        simp only [resolve, Sem.run_bind, Sem.run_pure, Result.andThen_ok, invoke]
        exact hb
      unfold pureBuiltin at h
      split at h
      · obtain ⟨e, hk⟩ := minV_sound (P := P) hr h ts o.type w
        refine key hk ?_
        have e' : (Builtin.min_ ts o.type (args.map μ)).run P w = .ok v w := by
          have : (args.toList.map μ).toArray = args.map μ := by apply Array.ext'; simp
          rw [← this]; exact e
        simp [builtin, e']
      · obtain ⟨e, hk⟩ := maxV_sound (P := P) hr h ts o.type w
        refine key hk ?_
        have e' : (Builtin.max_ ts o.type (args.map μ)).run P w = .ok v w := by
          have : (args.toList.map μ).toArray = args.map μ := by apply Array.ext'; simp
          rw [← this]; exact e
        simp [builtin, e']
      · split at h
        · rename_i t x hts
          cases hargs : args.toList with
          | nil => rw [hargs] at hr; cases hr
          | cons y ys =>
            rw [hargs] at hr
            cases hr with
            | cons h1 t1 =>
              cases ys with
              | cons _ _ => cases t1
              | nil =>
                obtain ⟨e, hk⟩ := lenV_sound (P := P) h1 h o.type w
                refine key hk ?_
                have h2 : args = #[y] := by apply Array.ext'; simpa using hargs
                have h3 : ts = #[t] := by apply Array.ext'; simpa using hts
                subst h2 h3
                simp only [builtin, Sem.run_bind, List.map_toArray, List.map_cons, List.map_nil, e, Result.andThen_ok, Sem.run_pure]
        · cases h
      · cases h
    · cases h
  · cases h
end Go.Sim
