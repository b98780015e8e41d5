/- Part 4 of the claim TapeTells: D4, D5, D6, D7, D8, D9, D10, D11, D12, I1, I2, I3, I4, D13 -/
import Derived.Test.YtmcboobmnipjlaaW3
set_option linter.unusedSimpArgs false
set_option linter.unusedVariables false
set_option linter.defProp false
namespace Go.Sim
open Go.RowKit

def dlook (t : Nat) : List (Nat × DV) → Option DV
  | [] => none
  | (t', d) :: l => if t' = t then some d else dlook t l
structure DFrm where
  n : Nat
  c : Nat
  l : List (Nat × DV)
def DFrm.put (a : DFrm) (t : Option Nat) (d : DV) : DFrm := match t with
  | some t => if t < a.n then ⟨a.n, a.c, (t, d) :: a.l⟩ else a
  | none => a
abbrev undD : DV := .tup []
def constD (v : Value) : Option DV := if scal v then some (.p (.v v)) else match v with
  | .tuple xs => if xs.size = 0 then some undD else none
  | _ => none
def DFrm.ev (a : DFrm) : Operand → Option DV
  | .tmp t => dlook t a.l
  | .const v => constD v
  | .func f => some (.fn f [] [])
  | .global _ => none
abbrev DRho := Operand → Option DV
/-- What the operands are. -/
def RhoD (P : Program) (W0 : Ent) (γ : Pl) (L : List Obj) (h : Heap) (ρ : DRho) (r : Rho) : Prop := ∀ x d, ρ x = some d → ∃ v, r x = some v ∧ DR P (Free W0 γ L h) γ L h d v
def allD (ρ : DRho) : List Operand → Option (List DV)
  | [] => some []
  | x :: r => match ρ x, allD ρ r with
    | some v, some vs => some (v :: vs)
    | _, _ => none
def allDP (ρ : DRho) : List (Nat × Operand) → Option (List (Nat × DV))
  | [] => some []
  | (i, x) :: r => match ρ x, allDP ρ r with
    | some v, some vs => some ((i, v) :: vs)
    | _, _ => none
section
variable {P : Program} {W0 : Ent} {γ : Pl} {L : List Obj} {h : Heap} {ρ : DRho} {r : Rho}
theorem allD_sound (hρ : RhoD P W0 γ L h ρ r) : ∀ {xs : List Operand} {ds : List DV}, allD ρ xs = some ds → ∃ vs, allV r xs = some vs ∧ All2 (DR P (Free W0 γ L h) γ L h) ds vs
  | [], ds, e => by cases e; exact ⟨[], rfl, .nil⟩
  | x :: xs, ds, e => by
    unfold allD at e
    cases h1 : ρ x with
    | none => rw [h1] at e; cases e
    | some d =>
      cases h2 : allD ρ xs with
      | none => rw [h1, h2] at e; cases e
      | some ds' =>
        rw [h1, h2] at e
        cases e
        obtain ⟨v, e1, r1⟩ := hρ x d h1
        obtain ⟨vs, e2, r2⟩ := allD_sound hρ h2
        exact ⟨v :: vs, by simp only [allV, e1, e2], .cons r1 r2⟩
theorem allDP_sound (hρ : RhoD P W0 γ L h ρ r) : ∀ {xs : List (Nat × Operand)} {ds : List (Nat × DV)}, allDP ρ xs = some ds → ∃ vs, allP r xs = some vs ∧ All2 (fun d v => d.1 = v.1 ∧ (DR P (Free W0 γ L h) γ L h) d.2 v.2) ds vs
  | [], ds, e => by cases e; exact ⟨[], rfl, .nil⟩
  | (i, x) :: xs, ds, e => by
    unfold allDP at e
    cases h1 : ρ x with
    | none => rw [h1] at e; cases e
    | some d =>
      cases h2 : allDP ρ xs with
      | none => rw [h1, h2] at e; cases e
      | some ds' =>
        rw [h1, h2] at e
        cases e
        obtain ⟨v, e1, r1⟩ := hρ x d h1
        obtain ⟨vs, e2, r2⟩ := allDP_sound hρ h2
        exact ⟨(i, v) :: vs, by simp only [allP, e1, e2], .cons ⟨rfl, r1⟩ r2⟩

def cellsD : DV → List DV
  | .agg xs => xs
  | d => [d]
theorem db_one {S : Nat → Prop} {d : DV} {v : Value} (hd : DB P S γ L h d v) : v.oneCell' = true := by
  cases d with
  | p x => exact PR.one hd
  | ptr => obtain ⟨_, _, _, rfl⟩ := hd; rfl
  | aref => obtain ⟨_, _, _, rfl⟩ := hd; rfl
  | ep => exact hd.2.1
  | ref => exact hd.2.1
  | dp => obtain ⟨_, _, _, _, _, _, _, rfl, _⟩ := hd; rfl
  | _ => exact hd.elim
theorem dc_one {S : Nat → Prop} {d : DV} {v : Value} (hd : DC P S γ L h d v) : v.oneCell' = true := by
  cases d with
  | fn => obtain ⟨_, _, rfl, _⟩ := hd; rfl
  | p x => exact db_one (P := P) (S := S) (γ := γ) (L := L) (h := h) (d := .p x) hd
  | ptr a b => exact db_one (P := P) (S := S) (γ := γ) (L := L) (h := h) (d := .ptr a b) hd
  | aref a b c => exact db_one (P := P) (S := S) (γ := γ) (L := L) (h := h) (d := .aref a b c) hd
  | ep a b c e => exact db_one (P := P) (S := S) (γ := γ) (L := L) (h := h) (d := .ep a b c e) hd
  | ref a b c e => exact db_one (P := P) (S := S) (γ := γ) (L := L) (h := h) (d := .ref a b c e) hd
  | dp a b => exact db_one (P := P) (S := S) (γ := γ) (L := L) (h := h) (d := .dp a b) hd
  | agg => exact hd.elim
  | tup => exact hd.elim
theorem one_cells {v : Value} (h : v.oneCell' = true) : v.cells = #[v] := by
  cases v <;> first | rfl | (simp [Value.oneCell'] at h)
theorem d1_of_dc {S : Nat → Prop} {d : DV} {v : Value} (hd : DC P S γ L h d v) : D1 P S γ L h d v := by
  cases d <;> first | exact hd | exact hd.elim
theorem dr_of_d1 {S : Nat → Prop} {d : DV} {v : Value} (hd : D1 P S γ L h d v) : DR P S γ L h d v := by
  cases d <;> first | exact hd | exact hd.elim
theorem dc_of_d1 {S : Nat → Prop} {d : DV} {v : Value} (hd : D1 P S γ L h d v) (ha : ∀ xs, d ≠ .agg xs) : DC P S γ L h d v := by
  cases d <;> first | exact hd | exact absurd rfl (ha _)
def is1 : DV → Bool
  | .tup _ => false
  | _ => true
theorem d1_of_dr {S : Nat → Prop} {d : DV} {v : Value} (hd : DR P S γ L h d v) (ha : is1 d = true) : D1 P S γ L h d v := by
  cases d <;> first | exact hd | (simp [is1] at ha)
theorem d1_cells {S : Nat → Prop} {d : DV} {v : Value} (hd : D1 P S γ L h d v) : All2 (DC P S γ L h) (cellsD d) v.cells.toList ∧ v.cells.toList.all Value.oneCell' = true := by
  have key : ∀ (d : DV), (∀ xs, d ≠ .agg xs) → D1 P S γ L h d v → All2 (DC P S γ L h) [d] v.cells.toList ∧ v.cells.toList.all Value.oneCell' = true := by
    intro d ha hd
    have h1 := dc_of_d1 hd ha
    have h2 := dc_one h1
    rw [one_cells h2]
    exact ⟨.cons h1 .nil, by simp [h2]⟩
  cases d with
  | agg xs =>
    obtain ⟨vs, rfl, h1⟩ := hd
    refine ⟨h1, ?_⟩
    rw [List.all_eq_true]
    intro u hu
    obtain ⟨i, hi, rfl⟩ := List.mem_iff_getElem.1 hu
    obtain ⟨d, _, hd⟩ := h1.get' (List.getElem?_eq_getElem hi)
    exact dc_one hd
  | _ => exact key _ (by intro xs e; cases e) hd

def dpartV (P : Program) (t : TypeId) (cs : List DV) (off : Nat) : Option DV :=
  match P.underlying t with
  | none => none
  | some _ => if aggT P t then match szT P t with
      | some n => if off + n ≤ cs.length then some (.agg ((cs.drop off).take n)) else none
      | none => none
    else cs[off]?
theorem dpart_sound {S : Nat → Prop} {t : TypeId} {cs : List DV} {vs : List Value} {off : Nat} {d : DV} (hr : All2 (DC P S γ L h) cs vs) (hd : dpartV P t cs off = some d) : ∃ v, partV P t vs off = some v ∧ D1 P S γ L h d v := by
  unfold dpartV at hd
  unfold partV
  cases hu : P.underlying t with
  | none => rw [hu] at hd; cases hd
  | some q =>
    simp only [hu] at hd ⊢
    by_cases ha : aggT P t = true
    · simp only [ha, if_true] at hd ⊢
      cases hs : szT P t with
      | none => simp [hs] at hd
      | some n =>
        simp only [hs] at hd ⊢
        rw [hr.length] at hd
        split at hd
        · rename_i hle
          cases hd
          rw [if_pos hle]
          exact ⟨_, rfl, _, rfl, by simpa using (hr.drop off).take n⟩
        · cases hd
    · simp only [ha] at hd ⊢
      obtain ⟨v, e, q⟩ := hr.get (by simpa using hd)
      exact ⟨v, e, d1_of_dc q⟩

def valsD : List DV → Option (List Value)
  | [] => some []
  | .p (.v x) :: l => (valsD l).map (x :: ·)
  | _ :: _ => none
def valD : DV → Option Value
  | .p (.v x) => some x
  | .agg xs => (valsD xs).map fun l => .agg l.toArray
  | _ => none
theorem valsD_sound {S : Nat → Prop} : ∀ {ds : List DV} {vs xs : List Value}, All2 (DC P S γ L h) ds vs → valsD ds = some xs → vs = xs
  | [], _, _, .nil, e => by cases e; rfl
  | d :: ds, _, _, .cons hd t, e => by
    unfold valsD at e
    split at e
    · rename_i heq; cases heq
    · rename_i x l heq
      cases heq
      cases hq : valsD ds with
      | none => rw [hq] at e; cases e
      | some ys =>
        rw [hq] at e; cases e
        have h1 : _ = x := PR.scal (P := P) (S := S) (h := h) hd
        rw [h1, valsD_sound t hq]
    · cases e
theorem valD_sound {S : Nat → Prop} {d : DV} {v x : Value} (hd : DR P S γ L h d v) (e : valD d = some x) : v = x := by
  unfold valD at e
  split at e
  · cases e; exact PR.scal (P := P) (S := S) (h := h) hd
  · rename_i xs
    obtain ⟨vs, rfl, h1⟩ := hd
    cases hq : valsD xs with
    | none => rw [hq] at e; cases e
    | some l =>
      rw [hq] at e; cases e
      have := valsD_sound h1 hq
      rw [← this]
  · cases e
/-- A scalar as a deep value. -/
def scD (o : Option Value) : Option DV := match o with
  | some v => if scal v then some (.p (.v v)) else none
  | none => none
theorem scD_sound {S : Nat → Prop} {o : Option Value} {d : DV} (e : scD o = some d) : ∃ v, o = some v ∧ DR P S γ L h d v := by
  unfold scD at e
  split at e
  · split at e
    · rename_i v hv; cases e; exact ⟨v, rfl, PR.v hv⟩
    · cases e
  · cases e
end
end Go.Sim

namespace Go.Sim
open Go.RowKit
section
variable {P : Program} {W0 : Ent} {γ : Pl} {L : List Obj} {h : Heap} {ρ : DRho} {r : Rho}

def nilV : Value → Bool
  | .pointer none => true
  | .slice none 0 0 => true
  | .map none => true
  | .nilFunc => true
  | _ => false
/-- What stands for a value that isn't nil. -/
def shadow : DV → Option Value
  | .ptr _ _ => some (.pointer (some ⟨0, 0, none⟩))
  | .dp _ _ => some (.pointer (some ⟨0, 0, none⟩))
  | .fn f _ _ => some (.func (.func f) #[] #[])
  | .p (.sl _ (_ :: _)) => some (.slice (some ⟨0, 0, none⟩) 1 0)
  | _ => none
inductive Alike : Value → Value → Prop
  | ptr (a b : Addr) : Alike (.pointer (some a)) (.pointer (some b))
  | sl (a b : Addr) (n n' c c' : Nat) : Alike (.slice (some a) n c) (.slice (some b) n' c')
  | fn (f g : FuncId) (x x' y y' : Array Value) : Alike (.func (.func f) x y) (.func (.func g) x' y')
theorem shadow_sound {d : DV} {v s : Value} (hd : (DR P (Free W0 γ L h) γ L h) d v) (e : shadow d = some s) : Alike s v := by
  unfold shadow at e
  split at e
  · cases e; obtain ⟨_, _, _, rfl⟩ := hd; exact .ptr _ _
  · cases e; obtain ⟨_, _, _, _, _, _, _, rfl, _⟩ := hd; exact .ptr _ _
  · cases e; obtain ⟨_, _, rfl, _⟩ := hd; exact .fn _ _ _ _ _ _
  · cases e
    cases (show PR P (Free W0 γ L h) h _ v from hd)
    exact .sl _ _ _ _ _ _
  · cases e
theorem eqV_alike {s v y : Value} (ha : Alike s v) (hn : nilV y = true) (d : Nat) (t : TypeId) : eqV P (d + 1) t s y = eqV P (d + 1) t v y ∧ eqV P (d + 1) t y s = eqV P (d + 1) t y v := by
  unfold nilV at hn
  constructor <;> (split at hn <;> first | cases hn | skip) <;> cases ha <;> (unfold eqV; cases P.underlying t with
    | none => rfl
    | some q => cases q <;> rfl)
theorem bin_alike {s v y : Value} (ha : Alike s v) (hn : nilV y = true) (op : BinOp) (t : TypeId) : binV P op t s y = binV P op t v y ∧ binV P op t y s = binV P op t y v := by
  have h1 := eqV_alike (P := P) ha hn 9999 t
  unfold nilV at hn
  constructor <;> (split at hn <;> first | cases hn | skip) <;> cases ha <;> cases op <;> simp only [binV] <;> first | rfl | rw [h1.1] | rw [h1.2]
def dbinV (P : Program) (op : BinOp) (t : TypeId) (a b : DV) : Option DV :=
  match valD a, valD b with
  | some x, some y => scD (binV P op t x y)
  | none, some y => if nilV y then match shadow a with
      | some x => scD (binV P op t x y)
      | none => none
    else none
  | some x, none => if nilV x then match shadow b with
      | some y => scD (binV P op t x y)
      | none => none
    else none
  | none, none => none
theorem dbin_sound {op : BinOp} {t : TypeId} {a b d : DV} {u w : Value} (ha : (DR P (Free W0 γ L h) γ L h) a u) (hb : (DR P (Free W0 γ L h) γ L h) b w) (e : dbinV P op t a b = some d) : ∃ v, binV P op t u w = some v ∧ (DR P (Free W0 γ L h) γ L h) d v := by
  unfold dbinV at e
  cases h1 : valD a with
  | some x =>
    have := valD_sound ha h1; subst this
    cases h2 : valD b with
    | some y =>
      have := valD_sound hb h2; subst this
      rw [h1, h2] at e
      exact scD_sound e
    | none =>
      rw [h1, h2] at e
      simp only at e
      split at e
      · rename_i hn
        cases h3 : shadow b with
        | none => rw [h3] at e; cases e
        | some y =>
          rw [h3] at e
          rw [← (bin_alike (shadow_sound hb h3) hn op t).2]
          exact scD_sound e
      · cases e
  | none =>
    cases h2 : valD b with
    | none => rw [h1, h2] at e; cases e
    | some y =>
      have := valD_sound hb h2; subst this
      rw [h1, h2] at e
      simp only at e
      split at e
      · rename_i hn
        cases h3 : shadow a with
        | none => rw [h3] at e; cases e
        | some x =>
          rw [h3] at e
          rw [← (bin_alike (shadow_sound ha h3) hn op t).1]
          exact scD_sound e
      · cases e

def setManyD : List DV → Nat → List DV → List DV
  | cs, _, [] => cs
  | cs, i, v :: r => setManyD (cs.set i v) (i + 1) r
theorem setMany_all2 {R : DV → Value → Prop} : ∀ {ys : List DV} {ws : List Value} {cs : List DV} {vs : List Value} {i : Nat}, All2 R cs vs → All2 R ys ws → All2 R (setManyD cs i ys) (setMany vs i ws)
  | [], _, cs, vs, i, h1, .nil => h1
  | y :: ys, w :: ws, cs, vs, i, h1, .cons hy t => by unfold setManyD setMany; exact setMany_all2 (h1.set hy i) t
def placesOf (P : Program) (t : TypeId) : Option (Nat → Option (Nat × Nat)) :=
  match P.underlying t with
  | some (.struct fs) => (fs.toList.mapM (fun f => (P.info? f.type).map fun i => (f.offset, i.size))).map fun l i => l[i]?
  | some (.array _ e) => (P.info? e).map fun ie i => some (i * ie.size, ie.size)
  | _ => none
def zeroD (P : Program) (t : TypeId) : Option (List DV) := match zeroCellsT P t with
  | some z => if z.all scal then some (z.map fun v => .p (.v v)) else none
  | none => none
theorem zero_all2 {S : Nat → Prop} {z : List Value} (hz : z.all scal = true) : All2 (DC P S γ L h) (z.map fun v => .p (.v v)) z := by
  induction z with
  | nil => exact .nil
  | cons v z ih =>
    simp only [List.all_cons, Bool.and_eq_true] at hz
    exact .cons (PR.v hz.1) (ih hz.2)
theorem zeroD_sound {S : Nat → Prop} {t : TypeId} {ds : List DV} (e : zeroD P t = some ds) : ∃ z, zeroCellsT P t = some z ∧ All2 (DC P S γ L h) ds z := by
  unfold zeroD at e
  split at e
  · split at e
    · rename_i z hz hs; cases e; exact ⟨z, hz, zero_all2 hs⟩
    · cases e
  · cases e
def fillD (place : Nat → Option (Nat × Nat)) (cells : List DV) : List (Nat × DV) → Option (List DV)
  | [] => some cells
  | (i, v) :: r => match place i with
    | none => none
    | some (off, sz) => if is1 v = true ∧ (cellsD v).length = sz ∧ off + sz ≤ cells.length then fillD place (setManyD cells off (cellsD v)) r else none
theorem fill_sound {place : Nat → Option (Nat × Nat)} : ∀ {ps : List (Nat × DV)} {qs : List (Nat × Value)} {cs xs : List DV} {vs : List Value}, All2 (DC P (Free W0 γ L h) γ L h) cs vs → All2 (fun d v => d.1 = v.1 ∧ (DR P (Free W0 γ L h) γ L h) d.2 v.2) ps qs → fillD place cs ps = some xs →
    ∃ ws, fillL place vs qs = some ws ∧ All2 (DC P (Free W0 γ L h) γ L h) xs ws
  | [], _, cs, xs, vs, h1, .nil, e => by cases e; exact ⟨vs, rfl, h1⟩
  | (i, d) :: ps, _, cs, xs, vs, h1, .cons (b := (j, v)) hd t, e => by
    obtain ⟨rfl, hd⟩ := hd
    unfold fillD at e
    unfold fillL
    cases hp : place i with
    | none => rw [hp] at e; cases e
    | some q =>
      obtain ⟨off, sz⟩ := q
      simp only [hp] at e ⊢
      split at e
      · rename_i hc
        have h2 := (d1_cells (d1_of_dr hd hc.1)).1
        have h3 : v.cells.size = sz := by have := h2.length; rw [← hc.2.1, this]; simp
        rw [if_pos ⟨h3, by rw [← h1.length]; exact hc.2.2⟩]
        exact fill_sound (setMany_all2 h1 h2) t e
      · cases e
def dbuildV (P : Program) (t : TypeId) (ps : List (Nat × DV)) : Option DV :=
  match placesOf P t, zeroD P t with
  | some pl, some z => if zeroOk P t then (fillD pl z ps).map .agg else none
  | _, _ => none
theorem buildV_places {t : TypeId} {pl : Nat → Option (Nat × Nat)} {z : List Value} {ps : List (Nat × Value)} (hp : placesOf P t = some pl) (hz : zeroCellsT P t = some z) (ho : zeroOk P t = true) :
    buildV P t ps = (fillL pl z ps).map fun l => .agg l.toArray := by
  obtain ⟨i, zv, h1, h2, _, h3, _⟩ := zeroCellsT_some hz
  first | subst h3 | (rw [← h3])
  unfold placesOf at hp
  split at hp
  · rename_i fs hu
    cases hm : fs.toList.mapM (fun f => (P.info? f.type).map fun i => (f.offset, i.size)) with
    | none => rw [hm] at hp; cases hp
    | some l =>
      rw [hm] at hp; cases hp
      exact build_struct hu ho h1 h2 hm
  · rename_i n e hu
    cases hm : P.info? e with
    | none => rw [hm] at hp; cases hp
    | some ie =>
      rw [hm] at hp; cases hp
      exact build_array hu ho h1 h2 hm
  · cases hp
theorem dbuild_sound {t : TypeId} {ps : List (Nat × DV)} {qs : List (Nat × Value)} {d : DV} (hr : All2 (fun d v => d.1 = v.1 ∧ (DR P (Free W0 γ L h) γ L h) d.2 v.2) ps qs) (e : dbuildV P t ps = some d) : ∃ v, buildV P t qs = some v ∧ (DR P (Free W0 γ L h) γ L h) d v := by
  unfold dbuildV at e
  split at e
  · rename_i pl z hp hz
    split at e
    · rename_i ho
      obtain ⟨zv, h1, h2⟩ := zeroD_sound (P := P) (γ := γ) (L := L) (h := h) (S := Free W0 γ L h) hz
      cases hf : fillD pl z ps with
      | none => rw [hf] at e; cases e
      | some xs =>
        rw [hf] at e; cases e
        obtain ⟨ws, h3, h4⟩ := fill_sound h2 hr hf
        rw [buildV_places hp h1 ho, h3]
        exact ⟨_, rfl, _, rfl, by simpa using h4⟩
    · cases e
  · cases e
def dfieldV (P : Program) (t : TypeId) (x : DV) (f : Nat) : Option DV :=
  match P.underlying t, x with
  | some (.struct fs), .agg cs => match fs[f]? with
    | some fd => dpartV P fd.type cs fd.offset
    | none => none
  | _, _ => none
theorem dfield_sound {t : TypeId} {x d : DV} {v : Value} {f : Nat} (hx : (DR P (Free W0 γ L h) γ L h) x v) (e : dfieldV P t x f = some d) : ∃ u, fieldV P t v f = some u ∧ (DR P (Free W0 γ L h) γ L h) d u := by
  unfold dfieldV at e
  split at e
  · rename_i fs cs hu
    obtain ⟨vs, rfl, h1⟩ := hx
    unfold fieldV
    simp only [hu]
    cases hf : fs[f]? with
    | none => rw [hf] at e; cases e
    | some fd =>
      simp only [hf] at e
      obtain ⟨v, e1, h2⟩ := dpart_sound h1 e
      exact ⟨v, e1, dr_of_d1 h2⟩
  · cases e

/-- How far a field lies in. -/
def offF (P : Program) (t : TypeId) (f : Nat) : Option Nat :=
  match P.underlying t with
  | some (.struct fs) => match fs[f]? with
    | some fd => match szT P fd.type with
      | some n => if n = 0 then none else some fd.offset
      | none => none
    | none => none
  | _ => none
theorem fieldAddr_off {t : TypeId} {f k : Nat} (e : offF P t f = some k) (b o : Nat) : fieldAddrV P t (.pointer (some ⟨b, o, none⟩)) f = some (.pointer (some ⟨b, o + k, none⟩)) := by
  unfold offF at e
  unfold fieldAddrV
  split at e
  · rename_i fs hu
    simp only [hu]
    split at e
    · rename_i fd hf
      simp only [hf]
      split at e
      · rename_i n hn
        simp only [hn]
        split at e
        · cases e
        · rename_i h0; cases e; rw [if_neg h0]
      · cases e
    · cases e
  · cases e
/-- A list's rows, if a tally of them still holds. -/
def rowsOf (L : List Obj) (id tot : Nat) : Option (List (List PV)) :=
  match L[id]? with
  | some (.li _ rows) => if rows.length = tot then some rows else none
  | some (.fz _ rows) => if rows.length = tot then some rows else none
  | _ => none
theorem rowsOf_some {id tot : Nat} {rows : List (List PV)} (e : rowsOf L id tot = some rows) : ∃ o, L[id]? = some o ∧ o.isList rows ∧ rows.length = tot := by
  unfold rowsOf at e
  split at e
  · rename_i hh; split at e
    · cases e; exact ⟨_, hh, rfl, by assumption⟩
    · cases e
  · rename_i hh; split at e
    · cases e; exact ⟨_, hh, rfl, by assumption⟩
    · cases e
  · cases e
theorem Hp.width {h0 : Heap} (H : Hp P h0 W0 γ L h) {id : Nat} {o : Obj} {rows : List (List PV)} (e : L[id]? = some o) (hl : o.isList rows) : ∃ z, ∀ r ∈ rows, r.length = z := by
  have ho := H.obj id o e
  cases o with
  | li t rs =>
    cases hl
    cases t with
    | none => obtain ⟨h1, _⟩ := ho; exact ⟨0, by rw [h1]; simp⟩
    | some t => obtain ⟨_, _, _, _, z, _, _, _, _, _, h1, _⟩ := ho; exact ⟨z, h1⟩
  | fz t rs =>
    cases hl
    cases t with
    | none => obtain ⟨h1, _⟩ := ho; exact ⟨0, by rw [h1]; simp⟩
    | some t => obtain ⟨_, _, _, _, _, z, _, _, _, _, _, h1, _⟩ := ho; exact ⟨z, h1⟩
  | st c => exact hl.elim
  | dead => exact hl.elim
/-- On by some cells. -/
def onD (L : List Obj) (k : Nat) : DV → Option DV
  | .ptr id off => some (.ptr id (off + k))
  | .ep id i off tot => match rowsOf L id tot with
    | some _ => some (.ep id i (off + k) tot)
    | none => none
  | .dp row off => some (.dp row (off + k))
  | _ => none
theorem ep_on {h0 : Heap} (H : Hp P h0 W0 γ L h) {id i off tot k : Nat} {v : Value} {rows : List (List PV)} (hx : (DR P (Free W0 γ L h) γ L h) (.ep id i off tot) v) (e : rowsOf L id tot = some rows) :
    ∃ b o, v = .pointer (some ⟨b, o, none⟩) ∧ (DR P (Free W0 γ L h) γ L h) (.ep id i (off + k) tot) (.pointer (some ⟨b, o + k, none⟩)) := by
  obtain ⟨q, h1, h2, h3⟩ := rowsOf_some e
  obtain ⟨z, hz⟩ := H.width h1 h2
  obtain ⟨k1, k2, k3⟩ := hx
  obtain ⟨k4, k5⟩ := k3 q rows h1 h2
  obtain ⟨k6, k7⟩ := k5 h3
  obtain ⟨b, o, g, rfl⟩ := k7 z hz
  refine ⟨b, _, rfl, k1, rfl, fun q' rows' e1 e2 => ?_⟩
  obtain ⟨m4, m5⟩ := k3 q' rows' e1 e2
  refine ⟨m4, fun e3 => ?_⟩
  obtain ⟨m6, m7⟩ := m5 e3
  refine ⟨m6, fun z' hz' => ?_⟩
  obtain ⟨b', o', g', e'⟩ := m7 z' hz'
  rw [g] at g'
  cases g'
  refine ⟨b, o, g, ?_⟩
  have e2 : o + i * z + off = o + i * z' + off := by
    simp only [Value.pointer.injEq, Option.some.injEq, Addr.mk.injEq, true_and, and_true] at e'
    exact e'
  rw [show o + i * z + off + k = o + i * z' + (off + k) by omega]
theorem on_sound {h0 : Heap} (H : Hp P h0 W0 γ L h) {x d : DV} {v : Value} {k : Nat} (hx : (DR P (Free W0 γ L h) γ L h) x v) (e : onD L k x = some d) : ∃ b o, v = .pointer (some ⟨b, o, none⟩) ∧ (DR P (Free W0 γ L h) γ L h) d (.pointer (some ⟨b, o + k, none⟩)) := by
  unfold onD at e
  split at e
  · cases e
    obtain ⟨b, h1, h2, rfl⟩ := hx
    exact ⟨b, _, rfl, b, h1, h2, rfl⟩
  · split at e
    · rename_i rows hr
      cases e
      exact ep_on H hx hr
    · cases e
  · cases e
    obtain ⟨b, o, cs, e, rw, h1, h2, rfl, h3⟩ := hx
    exact ⟨b, _, rfl, b, o, cs, e, rw, h1, h2, by rw [Nat.add_assoc], h3⟩
  · cases e
def dfieldAddrV (P : Program) (L : List Obj) (t : TypeId) (x : DV) (f : Nat) : Option DV := match offF P t f with
  | some k => onD L k x
  | none => none
theorem dfieldAddr_sound {h0 : Heap} (H : Hp P h0 W0 γ L h) {t : TypeId} {x d : DV} {v : Value} {f : Nat} (hx : (DR P (Free W0 γ L h) γ L h) x v) (e : dfieldAddrV P L t x f = some d) : ∃ u, fieldAddrV P t v f = some u ∧ (DR P (Free W0 γ L h) γ L h) d u := by
  unfold dfieldAddrV at e
  split at e
  · rename_i k hk
    obtain ⟨b, o, rfl, h1⟩ := on_sound H hx e
    exact ⟨_, fieldAddr_off hk b o, h1⟩
  · cases e
end
end Go.Sim

namespace Go.Sim
open Go.RowKit
section
variable {P : Program} {γ : Pl} {L : List Obj} {h : Heap} {h0 : Heap} {W0 : Ent}

theorem row_all2 {S : Nat → Prop} {row : List PV} {cs : List Value} {o : Nat} (hl : o + row.length ≤ cs.length) (hr : ∀ (j : Nat) (x : PV) (u : Value), row[j]? = some x → cs[o + j]? = some u → PR P S h x u) :
    All2 (DC P S γ L h) (row.map .p) ((cs.drop o).take row.length) := by
  refine All2.of_get (by simp; omega) fun j d u e1 e2 => ?_
  rw [List.getElem?_map] at e1
  cases hx : row[j]? with
  | none => rw [hx] at e1; cases e1
  | some x =>
    rw [hx] at e1; cases e1
    rw [List.getElem?_take] at e2
    split at e2
    · rw [List.getElem?_drop] at e2; exact hr j x u hx e2
    · cases e2
/-- A part of a part. -/
theorem part_at {t : TypeId} {cs : List Value} {o n off : Nat} {v : Value} (hl : o + n ≤ cs.length) (e : partV P t ((cs.drop o).take n) off = some v) : partV P t cs (o + off) = some v := by
  unfold partV at e ⊢
  cases hu : P.underlying t with
  | none => simp [hu] at e
  | some q =>
    simp only [hu] at e ⊢
    by_cases ha : aggT P t = true
    · simp only [ha, if_true] at e ⊢
      cases hs : szT P t with
      | none => simp [hs] at e
      | some k =>
        simp only [hs] at e ⊢
        split at e
        · rename_i hk
          simp at hk
          rw [if_pos (by omega), ← e]
          congr 2
          rw [List.drop_take, List.take_take, List.drop_drop, Nat.min_eq_left (by omega)]
        · cases e
    · simp only [ha] at e ⊢
      simp only [Bool.false_eq_true, if_false] at e ⊢
      rw [List.getElem?_take] at e
      split at e
      · rw [List.getElem?_drop] at e; exact e
      · cases e

def intD (d : DV) : Option Int := match d with
  | .p (.v (.int _ n)) => some n
  | _ => none
theorem intD_sound {d : DV} {v : Value} {n : Int} (hd : (DR P (Free W0 γ L h) γ L h) d v) (e : intD d = some n) : ∃ k, v = .int k n := by
  unfold intD at e
  split at e
  · rename_i k m
    cases e
    exact ⟨k, PR.scal (P := P) (S := Free W0 γ L h) (h := h) hd⟩
  · cases e
def dindexAddrV (P : Program) (L : List Obj) (t : TypeId) (x i : DV) : Option DV :=
  match intD i with
  | none => none
  | some n => if 0 ≤ n then
      match P.underlying t with
      | some (.slice e) => match szT P e with
        | some s => match x with
          | .p (.sl z rows) => if z = s then match rows[n.toNat]? with
              | some row => some (.dp row 0)
              | none => none
            else none
          | .ref id lo m tot => match rowsOf L id tot with
            | some rows => if n.toNat < m then match rows[lo + n.toNat]? with
                | some row => if row.length = s then some (.ep id (lo + n.toNat) 0 tot) else none
                | none => none
              else none
            | none => none
          | .aref id off m => if n.toNat < m then some (.ptr id (off + n.toNat * s)) else none
          | _ => none
        | none => none
      | some (.array len e) => match szT P e with
        | some s => if n.toNat < len then onD L (n.toNat * s) x else none
        | none => none
      | _ => none
    else none
theorem dindexAddr_sound (H : Hp P h0 W0 γ L h) {t : TypeId} {x i d : DV} {v w : Value} (hx : (DR P (Free W0 γ L h) γ L h) x v) (hi : (DR P (Free W0 γ L h) γ L h) i w) (e : dindexAddrV P L t x i = some d) : ∃ u, indexAddrV P t v w = some u ∧ (DR P (Free W0 γ L h) γ L h) d u := by
  unfold dindexAddrV at e
  split at e
  · cases e
  rename_i n hn
  obtain ⟨k, rfl⟩ := intD_sound hi hn
  split at e
  case isFalse => cases e
  rename_i h0n
  split at e
  · rename_i t' hu
    split at e
    case h_2 => cases e
    rename_i s hs
    split at e
    · rename_i z rows
      split at e
      case isFalse => cases e
      rename_i hz
      subst hz
      split at e
      case h_2 => cases e
      rename_i row hrow
      cases e
      have hlt : n.toNat < rows.length := (List.getElem?_eq_some_iff.1 hrow).1
      cases (show PR P (Free W0 γ L h) h _ v from hx) with
      | nil => simp at hlt
      | dud => simp at hlt
      | sl hS hb h0 hl hz hr hc hm =>
        rename_i b o c cs te rw
        rw [indexAddr_slice hu hs, if_pos (by omega)]
        refine ⟨_, rfl, b, o + n.toNat * z, cs, te, rw, hS, hb, rfl, ?_, fun j x u e1 e2 => hr n.toNat row j x u hrow e1 e2⟩
        rw [hz _ _ hrow]
        have : (n.toNat + 1) * z ≤ rows.length * z := Nat.mul_le_mul_right _ hlt
        rw [Nat.succ_mul] at this
        omega
    · rename_i id lo m tot
      split at e
      case h_2 => cases e
      rename_i rows hro
      split at e
      case isFalse => cases e
      rename_i hm
      split at e
      case h_2 => cases e
      rename_i row hrow
      split at e
      case isFalse => cases e
      rename_i hsz
      cases e
      obtain ⟨q, q1, q2, q3⟩ := rowsOf_some hro
      obtain ⟨z, hz⟩ := H.width q1 q2
      have hzs : z = s := by rw [← hz row (List.mem_of_getElem? hrow)]; exact hsz
      subst hzs
      obtain ⟨k1, k2, k3⟩ := hx
      obtain ⟨k4, k5⟩ := k3 q rows q1 q2
      obtain ⟨k6, k7⟩ := k5 q3
      rcases k7 z hz with ⟨rfl, h1, h2⟩ | ⟨b, o, c, rfl, h1, h2⟩ | ⟨b, o, c, g, rfl, h1⟩
      · omega
      · omega
      · rw [indexAddr_slice hu hs, if_pos (by omega)]
        have hadd : o + lo * z + n.toNat * z = o + (lo + n.toNat) * z + 0 := by rw [Nat.add_mul]; omega
        rw [hadd]
        refine ⟨_, rfl, k1, rfl, fun q' rows' e1 e2 => ?_⟩
        obtain ⟨m4, m5⟩ := k3 q' rows' e1 e2
        refine ⟨m4, fun e3 => ?_⟩
        obtain ⟨m6, m7⟩ := m5 e3
        refine ⟨by omega, fun z' hz' => ?_⟩
        have hro' : rows' = rows := by
          rw [q1] at e1; cases e1
          cases q <;> first | (cases q2; cases e2; rfl) | exact q2.elim
        subst hro'
        have hzz : z' = z := by rw [← hz row (List.mem_of_getElem? hrow), hz' row (List.mem_of_getElem? hrow)]
        subst hzz
        exact ⟨b, o, g, rfl⟩
    · rename_i id off m
      split at e
      case isFalse => cases e
      rename_i hm
      cases e
      obtain ⟨b, h1, h2, rfl⟩ := hx
      rw [indexAddr_slice hu hs, if_pos (by omega)]
      exact ⟨_, rfl, b, h1, h2, rfl⟩
    · cases e
  · rename_i len t' hu
    split at e
    case h_2 => cases e
    rename_i s hs
    split at e
    case isFalse => cases e
    rename_i hlen
    obtain ⟨b, o, rfl, h1⟩ := on_sound H hx e
    rw [indexAddr_array hu hs, if_pos (by omega)]
    exact ⟨_, rfl, h1⟩
  · cases e

def dloadV (P : Program) (L : List Obj) (t : TypeId) (x : DV) : Option DV :=
  match x with
  | .ptr id off => match L[id]? with
    | some (.st cells) => dpartV P t cells off
    | _ => none
  | .ep id i off tot => match rowsOf L id tot with
    | some rows => match rows[i]? with
      | some row => dpartV P t (row.map .p) off
      | none => none
    | none => none
  | .dp row off => dpartV P t (row.map .p) off
  | _ => none
theorem dload_sound (H : Hp P h0 W0 γ L h) {t : TypeId} {x d : DV} {v : Value} (hx : (DR P (Free W0 γ L h) γ L h) x v) (e : dloadV P L t x = some d) : ∃ u, loadV P t h v = some u ∧ (DR P (Free W0 γ L h) γ L h) d u := by
  unfold dloadV at e
  split at e
  · rename_i id off
    split at e
    · rename_i cells hc
      obtain ⟨b, h1, h2, rfl⟩ := hx
      obtain ⟨b', te, vs, g1, g2, g3⟩ := H.obj id _ hc
      rw [h1] at g1; cases g1
      obtain ⟨u, e1, r1⟩ := dpart_sound g3 e
      exact ⟨u, by simp only [loadV, loadT, g2]; exact e1, dr_of_d1 r1⟩
    · cases e
  · rename_i id i off tot
    split at e
    case h_2 => cases e
    rename_i rows hro
    split at e
    case h_2 => cases e
    rename_i row hrow
    obtain ⟨q, q1, q2, q3⟩ := rowsOf_some hro
    obtain ⟨z, hz⟩ := H.width q1 q2
    obtain ⟨k1, k2, k3⟩ := hx
    obtain ⟨k4, k5⟩ := k3 q rows q1 q2
    obtain ⟨k6, k7⟩ := k5 q3
    obtain ⟨b, o, g, rfl⟩ := k7 z hz
    have hR : ∃ te, Rows P (Free W0 γ L h) h b o te rows := by
      have ho := H.obj id q q1
      cases q with
      | li te rs =>
        cases q2
        cases te with
        | none => rw [ho.2] at g; cases g
        | some te => obtain ⟨b', o', g', hR⟩ := ho; rw [g] at g'; cases g'; exact ⟨te, hR⟩
      | fz te rs =>
        cases q2
        cases te with
        | none => rw [ho.2] at g; cases g
        | some te => obtain ⟨b', o', g', _, hR⟩ := ho; rw [g] at g'; cases g'; exact ⟨te, hR⟩
      | st c => exact q2.elim
      | dead => exact q2.elim
    obtain ⟨te, cs, z', r1, r2, r3, r4, r5, r6, r7⟩ := hR
    have hzz : z' = z := by rw [← hz row (List.mem_of_getElem? hrow), r6 row (List.mem_of_getElem? hrow)]
    subst hzz
    have hil : i < rows.length := (List.getElem?_eq_some_iff.1 hrow).1
    have hmul : (i + 1) * z' ≤ rows.length * z' := Nat.mul_le_mul_right _ hil
    rw [Nat.succ_mul] at hmul
    have hrl := r6 row (List.mem_of_getElem? hrow)
    have h2 := row_all2 (P := P) (γ := γ) (L := L) (S := Free W0 γ L h) (row := row) (cs := cs) (o := o + i * z') (by omega) (fun j x u e1 e2 => r7 i row j x u hrow e1 e2)
    obtain ⟨u, e1, rr⟩ := dpart_sound h2 e
    exact ⟨u, by simp only [loadV, loadT, r1]; exact part_at (by omega) e1, dr_of_d1 rr⟩
  · rename_i row off
    obtain ⟨b, o, cs, te, rw, h1, h2, rfl, h3, h4⟩ := hx
    obtain ⟨u, e1, rr⟩ := dpart_sound (row_all2 h3 h4) e
    exact ⟨u, by simp only [loadV, loadT, h2]; exact part_at h3 e1, dr_of_d1 rr⟩
  · cases e
end
end Go.Sim

namespace Go.Sim
open Go.RowKit
theorem setMany_get : ∀ (vs cs : List Value) (i m : Nat), i + vs.length ≤ cs.length → (setMany cs i vs)[m]? = if i ≤ m ∧ m < i + vs.length then vs[m - i]? else cs[m]?
  | [], cs, i, m, _ => by rw [if_neg (by simp only [List.length_nil]; omega)]; rfl
  | v :: r, cs, i, m, hl => by
    rw [setMany, setMany_get r _ _ _ (by simp only [List.length_cons, List.length_set] at hl ⊢; omega)]
    simp only [List.length_cons] at hl ⊢
    by_cases h1 : i + 1 ≤ m ∧ m < i + 1 + r.length
    · rw [if_pos h1, if_pos (by omega), show m - i = (m - (i + 1)) + 1 by omega, List.getElem?_cons_succ]
    · rw [if_neg h1]
      by_cases h2 : m = i
      · subst h2
        rw [if_pos (by omega), Nat.sub_self, List.getElem?_cons_zero, List.getElem?_set_self (by omega)]
      · rw [if_neg (by omega), List.getElem?_set_ne (Ne.symm h2)]
def setManyP : List PV → Nat → List PV → List PV
  | cs, _, [] => cs
  | cs, i, v :: r => setManyP (cs.set i v) (i + 1) r
@[simp] theorem length_setManyP : ∀ (ys cs : List PV) (i : Nat), (setManyP cs i ys).length = cs.length
  | [], _, _ => rfl
  | v :: r, cs, i => by rw [setManyP, length_setManyP r]; simp
theorem setManyP_get : ∀ (vs cs : List PV) (i m : Nat), i + vs.length ≤ cs.length → (setManyP cs i vs)[m]? = if i ≤ m ∧ m < i + vs.length then vs[m - i]? else cs[m]?
  | [], cs, i, m, _ => by rw [if_neg (by simp only [List.length_nil]; omega)]; rfl
  | v :: r, cs, i, m, hl => by
    rw [setManyP, setManyP_get r _ _ _ (by simp only [List.length_cons, List.length_set] at hl ⊢; omega)]
    simp only [List.length_cons] at hl ⊢
    by_cases h1 : i + 1 ≤ m ∧ m < i + 1 + r.length
    · rw [if_pos h1, if_pos (by omega), show m - i = (m - (i + 1)) + 1 by omega, List.getElem?_cons_succ]
    · rw [if_neg h1]
      by_cases h2 : m = i
      · subst h2
        rw [if_pos (by omega), Nat.sub_self, List.getElem?_cons_zero, List.getElem?_set_self (by omega)]
      · rw [if_neg (by omega), List.getElem?_set_ne (Ne.symm h2)]
/-- Cells that may stand in a row. -/
def pvs : List DV → Option (List PV)
  | [] => some []
  | .p x :: l => (pvs l).map (x :: ·)
  | _ :: _ => none
section
variable {P : Program} {γ : Pl} {L : List Obj} {h : Heap} {h0 : Heap} {W0 : Ent}
theorem pvs_sound {S : Nat → Prop} : ∀ {ds : List DV} {vs : List Value} {xs : List PV}, All2 (DC P S γ L h) ds vs → pvs ds = some xs → All2 (PR P S h) xs vs
  | [], _, _, .nil, e => by cases e; exact .nil
  | d :: ds, _, _, .cons hd t, e => by
    unfold pvs at e
    split at e
    · rename_i heq; cases heq
    · rename_i x l heq
      cases heq
      cases hq : pvs ds with
      | none => rw [hq] at e; cases e
      | some ys => rw [hq] at e; cases e; exact .cons hd (pvs_sound t hq)
    · cases e

def dstoreV (P : Program) (L : List Obj) (t : TypeId) (p x : DV) : Option (List Obj) :=
  match p with
  | .ptr id off => match L[id]? with
    | some (.st cells) => if is1 x = true ∧ szT P t = some (cellsD x).length ∧ off + (cellsD x).length ≤ cells.length then some (L.set id (.st (setManyD cells off (cellsD x)))) else none
    | _ => none
  | .ep id i off tot => match L[id]? with
    | some (.li te rows) => if rows.length = tot then match rows[i]? with
        | some row => if is1 x = true then match pvs (cellsD x) with
            | some ps => if szT P t = some ps.length ∧ off + ps.length ≤ row.length then some (L.set id (.li te (rows.set i (setManyP row off ps)))) else none
            | none => none
          else none
        | none => none
      else none
    | _ => none
  | _ => none
theorem write_st (H : Hp P h0 W0 γ L h) {id b : Nat} {cells cells' : List DV} {vs vs' : List Value} {te : TypeId} (hi : L[id]? = some (.st cells)) (hg : γ id = some (b, 0)) (hb : h.get b = some (.cells vs te true)) (hr : All2 (DC P (Free W0 γ L h) γ L h) cells' vs') :
    Hp P h0 W0 γ (L.set id (.st cells')) (h.set b (.cells vs' te true)) ∧ Carry W0 γ L h γ (L.set id (.st cells')) (h.set b (.cells vs' te true)) := by
  have hget : ∀ b', b' < h.next → (∀ x, γ id ≠ some (b', x)) → (h.set b (.cells vs' te true)).get b' = h.get b' := fun b' _ hx => Heap.get_set_ne _ _ (by rintro rfl; exact hx 0 hg)
  have c := carry_write (W0 := W0) (h := h) (γ' := γ) (h' := h.set b (.cells vs' te true)) (o' := .st cells') hi (.inl rfl) (fun _ _ => rfl) (fun c _ => ⟨rfl, _, rfl⟩) (fun rows' hl => hl.elim) (Nat.le_refl _) (fun b x e _ => .inl e) hget
  refine ⟨H.write hi (.inl rfl) c (fun _ _ => rfl) (Nat.le_refl _) (fun b x e => .inl ⟨x, e⟩) (fun x e => H.dom _ _ e) hget ?_, c⟩
  exact ⟨b, te, vs', hg, Heap.get_set_self hb, hr.mono fun _ _ => c.dc⟩
theorem write_li (H : Hp P h0 W0 γ L h) {id b o : Nat} {rows rows' : List (List PV)} {cs cs' : List Value} {te : TypeId} {z : Nat} (hi : L[id]? = some (.li (some te) rows)) (hg : γ id = some (b, o)) (hb : h.get b = some (.cells cs te true))
    (hlen : rows'.length = rows.length) (hw : ∀ r ∈ rows, r.length = z) (hw' : ∀ r ∈ rows', r.length = z) (hz : szT P te = some z) (h0z : 0 < z) (hl : o + rows.length * z ≤ cs'.length) (hm : rows.length ≤ maxLen)
    (hr : ∀ (i : Nat) (r : List PV) (j : Nat) (x : PV) (u : Value), rows'[i]? = some r → r[j]? = some x → cs'[o + i * z + j]? = some u → PR P (Free W0 γ L h) h x u) :
    Hp P h0 W0 γ (L.set id (.li (some te) rows')) (h.set b (.cells cs' te true)) ∧ Carry W0 γ L h γ (L.set id (.li (some te) rows')) (h.set b (.cells cs' te true)) := by
  have hget : ∀ b', b' < h.next → (∀ x, γ id ≠ some (b', x)) → (h.set b (.cells cs' te true)).get b' = h.get b' := fun b' _ hx => Heap.get_set_ne _ _ (by rintro rfl; exact hx o hg)
  have c := carry_write (W0 := W0) (h := h) (γ' := γ) (h' := h.set b (.cells cs' te true)) (o' := .li (some te) rows') hi (.inl rfl) (fun _ _ => rfl) (fun c e => (by cases e))
    (fun r' hl' => ⟨rows, rfl, by cases hl'; omega, fun _ => ⟨rfl, fun z' hz' r hr' => by
      cases hl'
      rw [hw r hr']
      have hne : 0 < rows.length := List.length_pos_of_mem hr'
      have h1 : rows'[0]'(by omega) ∈ rows' := List.getElem_mem _
      rw [← hz' _ h1, hw' _ h1]⟩⟩) (Nat.le_refl _) (fun b x e _ => .inl e) hget
  refine ⟨H.write hi (.inl rfl) c (fun _ _ => rfl) (Nat.le_refl _) (fun b x e => .inl ⟨x, e⟩) (fun x e => H.dom _ _ e) hget ?_, c⟩
  exact ⟨b, o, hg, cs', z, Heap.get_set_self hb, hz, h0z, by rw [hlen]; exact hl, by rw [hlen]; exact hm, hw', fun i r j x u e1 e2 e3 => c.pr (hr i r j x u e1 e2 e3)⟩
theorem dstore_sound (H : Hp P h0 W0 γ L h) {t : TypeId} {p x : DV} {v u : Value} {L' : List Obj} (hp : (DR P (Free W0 γ L h) γ L h) p v) (hx : (DR P (Free W0 γ L h) γ L h) x u) (e : dstoreV P L t p x = some L') :
    ∃ h', storeV P t h v u = some h' ∧ Hp P h0 W0 γ L' h' ∧ Carry W0 γ L h γ L' h' := by
  unfold dstoreV at e
  split at e
  · rename_i id off
    split at e
    case h_2 => cases e
    rename_i cells hc
    split at e
    case isFalse => cases e
    rename_i hcond
    obtain ⟨k1, k2, k3⟩ := hcond
    cases e
    obtain ⟨b, h1, _, rfl⟩ := hp
    obtain ⟨b', te, vs, g1, g2, g3⟩ := H.obj id _ hc
    rw [h1] at g1; cases g1
    obtain ⟨q1, q2⟩ := d1_cells (d1_of_dr hx k1)
    have hsz : u.cells.size = (cellsD x).length := by rw [q1.length]; simp
    refine ⟨_, ?_, write_st H hc h1 g2 (setMany_all2 g3 q1)⟩
    simp only [storeV, g2]
    rw [if_pos ⟨by rw [hsz]; exact k2, by rw [hsz, ← g3.length]; exact k3, q2⟩]
  · rename_i id i off tot
    split at e
    case h_2 => cases e
    rename_i te rows hc
    split at e
    case isFalse => cases e
    rename_i htot
    split at e
    case h_2 => cases e
    rename_i row hrow
    split at e
    case isFalse => cases e
    rename_i k1
    split at e
    case h_2 => cases e
    rename_i ps hps
    split at e
    case isFalse => cases e
    rename_i hcond
    obtain ⟨k2, k3⟩ := hcond
    cases e
    have hil : i < rows.length := (List.getElem?_eq_some_iff.1 hrow).1
    have ho := H.obj id _ hc
    cases te with
    | none => obtain ⟨h1, _⟩ := ho; rw [h1] at hil; simp at hil
    | some te =>
      obtain ⟨b, o, hg, cs, z, r1, r2, r3, r4, r5, r6, r7⟩ := ho
      obtain ⟨m1, m2, m3⟩ := hp
      obtain ⟨m4, m5⟩ := m3 _ rows hc rfl
      obtain ⟨m6, m7⟩ := m5 htot
      obtain ⟨b', o', g', rfl⟩ := m7 z r6
      rw [hg] at g'; cases g'
      obtain ⟨q1, q2⟩ := d1_cells (d1_of_dr hx k1)
      have q3 := pvs_sound q1 hps
      have hsz : u.cells.size = ps.length := by rw [q3.length]; simp
      have hrl := r6 row (List.mem_of_getElem? hrow)
      have hmul : (i + 1) * z ≤ rows.length * z := Nat.mul_le_mul_right _ hil
      rw [Nat.succ_mul] at hmul
      have hul : u.cells.toList.length = ps.length := by simpa using hsz
      refine ⟨_, ?_, write_li H hc hg r1 (cs' := setMany cs (o + i * z + off) u.cells.toList) (rows' := rows.set i (setManyP row off ps)) (by simp) r6 (fun r hr => ?_) r2 r3 (by simpa using r4) r5 ?_⟩
      · simp only [storeV, r1]
        rw [if_pos ⟨by rw [hsz]; exact k2, by rw [hsz]; omega, q2⟩]
      · obtain ⟨j, hj⟩ := List.mem_iff_getElem?.1 hr
        rcases getElem?_set' hj with ⟨_, hj⟩ | ⟨_, _, rfl⟩
        · exact r6 r (List.mem_of_getElem? hj)
        · simpa using hrl
      · intro i' r' j x' w e1 e2 e3
        rw [setMany_get _ _ _ _ (by rw [hul]; omega)] at e3
        rcases getElem?_set' e1 with ⟨hne, e1⟩ | ⟨rfl, _, rfl⟩
        · have hr'l := r6 r' (List.mem_of_getElem? e1)
          have hj : j < z := by rw [← hr'l]; exact (List.getElem?_eq_some_iff.1 e2).1
          have hi'l : i' < rows.length := (List.getElem?_eq_some_iff.1 e1).1
          rw [if_neg ?_] at e3
          · exact r7 i' r' j x' w e1 e2 e3
          · rw [hul]
            rintro ⟨a1, a2⟩
            rcases Nat.lt_or_gt_of_ne hne with hlt | hlt
            · have : (i' + 1) * z ≤ i * z := Nat.mul_le_mul_right _ hlt
              rw [Nat.succ_mul] at this
              omega
            · have : (i + 1) * z ≤ i' * z := Nat.mul_le_mul_right _ hlt
              rw [Nat.succ_mul] at this
              omega
        · have hj : j < row.length := by have := (List.getElem?_eq_some_iff.1 e2).1; simpa using this
          rw [setManyP_get _ _ _ _ k3] at e2
          by_cases hin : off ≤ j ∧ j < off + ps.length
          · rw [if_pos hin] at e2
            rw [if_pos (by rw [hul]; omega)] at e3
            obtain ⟨w', e4, rr⟩ := q3.get e2
            rw [show o + i' * z + j - (o + i' * z + off) = j - off by omega, e4] at e3
            cases e3
            exact rr
          · rw [if_neg hin] at e2
            rw [if_neg (by rw [hul]; omega)] at e3
            exact r7 i' row j x' w hrow e2 e3
  · cases e

theorem new_st (H : Hp P h0 W0 γ L h) {cells : List DV} {vs : List Value} (te : TypeId) (hr : All2 (DC P (Free W0 γ L h) γ L h) cells vs) :
    ∃ γ', Hp P h0 W0 γ' (L ++ [.st cells]) (h.push (.cells vs te true)) ∧ Carry W0 γ L h γ' (L ++ [.st cells]) (h.push (.cells vs te true)) ∧ DR P (Free W0 γ' (L ++ [.st cells]) (h.push (.cells vs te true))) γ' (L ++ [.st cells]) (h.push (.cells vs te true)) (.ptr L.length 0) (ptrOfNew h.next) := by
  have c := carry_push (W0 := W0) (h := h) H.dom (.cells vs te true) (.st cells)
  refine ⟨_, H.push ?_, c, h.next, by simp [plAdd], ⟨cells, by simp⟩, rfl⟩
  exact ⟨h.next, te, vs, by simp [plAdd], Heap.get_push_self _ _, hr.mono fun _ _ => c.dc⟩
theorem new_li (H : Hp P h0 W0 γ L h) {rows : List (List PV)} {cs : List Value} {te : TypeId} {z c : Nat} (hz : szT P te = some z) (h0z : 0 < z) (hl : rows.length * z ≤ cs.length) (hm : rows.length ≤ maxLen) (hw : ∀ r ∈ rows, r.length = z)
    (hr : ∀ (i : Nat) (r : List PV) (j : Nat) (x : PV) (u : Value), rows[i]? = some r → r[j]? = some x → cs[i * z + j]? = some u → PR P (Free W0 γ L h) h x u) (hc : c = unk ∨ (rows.length ≤ c ∧ c ≤ maxLen)) :
    ∃ γ', Hp P h0 W0 γ' (L ++ [.li (some te) rows]) (h.push (.cells cs te true)) ∧ Carry W0 γ L h γ' (L ++ [.li (some te) rows]) (h.push (.cells cs te true)) ∧
      DR P (Free W0 γ' (L ++ [.li (some te) rows]) (h.push (.cells cs te true))) γ' (L ++ [.li (some te) rows]) (h.push (.cells cs te true)) (.ref L.length 0 rows.length rows.length) (sliceOfNew rows.length c h.next) := by
  have c' := carry_push (W0 := W0) (h := h) H.dom (.cells cs te true) (.li (some te) rows)
  have hd1 : dud > maxLen := by decide
  have hd2 : noapp > maxLen := by decide
  have hd3 : unk ≠ dud := by decide
  have hd4 : unk ≠ noapp := by decide
  refine ⟨_, H.push ?_, c', by simp, rfl, fun o rs e1 e2 => ?_⟩
  · exact ⟨h.next, 0, by simp [plAdd], cs, z, Heap.get_push_self _ _, hz, h0z, by omega, hm, hw, fun i r j x u e1 e2 e3 => c'.pr (hr i r j x u e1 e2 (by simpa using e3))⟩
  · simp at e1
    subst e1
    cases e2
    refine ⟨Nat.le_refl _, fun _ => ⟨by omega, fun z' _ => .inr (.inr ⟨h.next, 0, c, by simp [plAdd], by simp [sliceOfNew], ?_, ?_, hc⟩)⟩⟩
    · rcases hc with rfl | hc
      · exact hd3
      · omega
    · rcases hc with rfl | hc
      · exact hd4
      · omega
end
end Go.Sim

namespace Go.Sim
open Go.RowKit
section
variable {P : Program} {γ : Pl} {L : List Obj} {h : Heap} {h0 : Heap} {W0 : Ent}

/-- Rows in a row of cells. -/
structure FlatR (P : Program) (S : Nat → Prop) (h : Heap) (z : Nat) (rows : List (List PV)) (cs : List Value) : Prop where
  len : cs.length = rows.length * z
  wide : ∀ r ∈ rows, r.length = z
  get : ∀ (i : Nat) (r : List PV) (j : Nat) (x : PV) (u : Value), rows[i]? = some r → r[j]? = some x → cs[i * z + j]? = some u → PR P S h x u
theorem flat_nil {S : Nat → Prop} (z : Nat) : FlatR P S h z [] [] := ⟨by simp, by simp, fun i r j x u e => by simp at e⟩
theorem FlatR.append {S : Nat → Prop} {z : Nat} {r1 r2 : List (List PV)} {c1 c2 : List Value} (a : FlatR P S h z r1 c1) (b : FlatR P S h z r2 c2) : FlatR P S h z (r1 ++ r2) (c1 ++ c2) := by
  refine ⟨by rw [List.length_append, List.length_append, a.len, b.len, Nat.add_mul], fun r hr => ?_, fun i r j x u e1 e2 e3 => ?_⟩
  · rcases List.mem_append.1 hr with hr | hr
    · exact a.wide r hr
    · exact b.wide r hr
  · by_cases hi : i < r1.length
    · rw [List.getElem?_append_left hi] at e1
      have hj : j < z := by rw [← a.wide r (List.mem_of_getElem? e1)]; exact (List.getElem?_eq_some_iff.1 e2).1
      have : (i + 1) * z ≤ r1.length * z := Nat.mul_le_mul_right _ hi
      rw [Nat.succ_mul] at this
      rw [List.getElem?_append_left (by rw [a.len]; omega)] at e3
      exact a.get i r j x u e1 e2 e3
    · rw [List.getElem?_append_right (by omega)] at e1
      have : r1.length * z ≤ i * z := Nat.mul_le_mul_right _ (by omega)
      rw [List.getElem?_append_right (by rw [a.len]; omega), a.len] at e3
      refine b.get _ r j x u e1 e2 ?_
      rw [Nat.sub_mul, ← e3]
      congr 1
      omega
theorem flat_one {S : Nat → Prop} {row : List PV} {vs : List Value} (hr : All2 (PR P S h) row vs) : FlatR P S h row.length [row] vs := by
  refine ⟨by simp [hr.length], by simp, fun i r j x u e1 e2 e3 => ?_⟩
  cases i with
  | succ i => simp at e1
  | zero =>
    simp at e1; subst e1
    obtain ⟨w, e4, rr⟩ := hr.get e2
    rw [Nat.zero_mul, Nat.zero_add] at e3
    rw [e4] at e3; cases e3
    exact rr
/-- The part that a slice tells of, flat. -/
theorem flat_part {S : Nat → Prop} {cs : List Value} {o z lo n : Nat} {rows : List (List PV)} (hl : o + rows.length * z ≤ cs.length) (hw : ∀ r ∈ rows, r.length = z) (hn : lo + n ≤ rows.length)
    (hr : ∀ (i : Nat) (r : List PV) (j : Nat) (x : PV) (u : Value), rows[i]? = some r → r[j]? = some x → cs[o + i * z + j]? = some u → PR P S h x u) :
    FlatR P S h z ((rows.drop lo).take n) ((cs.drop (o + lo * z)).take (n * z)) := by
  have h1 : (lo + n) * z ≤ rows.length * z := Nat.mul_le_mul_right _ hn
  rw [Nat.add_mul] at h1
  refine ⟨by simp; rw [Nat.min_eq_left (by omega), Nat.min_eq_left (by omega)], fun r hr => hw r (List.mem_of_mem_drop (List.mem_of_mem_take hr)), fun i r j x u e1 e2 e3 => ?_⟩
  rw [List.getElem?_take] at e1 e3
  split at e1
  case isFalse => cases e1
  split at e3
  case isFalse => cases e3
  rw [List.getElem?_drop] at e1 e3
  refine hr (lo + i) r j x u e1 e2 ?_
  rw [← e3]
  congr 1
  rw [Nat.add_mul]
  omega

/-- The rows that a value tells of. -/
def dsrc (P : Program) (L : List Obj) (s : Nat) (t : TypeId) (x : DV) : Option (List (List PV)) :=
  match P.underlying t with
  | some (.slice _) => match x with
    | .p (.sl z rows) => if z = s then some rows else none
    | .p (.v (.slice none 0 0)) => some []
    | .ref id lo n tot => match rowsOf L id tot with
      | some rows => if rows.all (fun r => r.length == s) then some ((rows.drop lo).take n) else none
      | none => none
    | .aref id off n => match L[id]? with
      | some (.st cells) => if s = 1 ∧ off + n ≤ cells.length then (pvs ((cells.drop off).take n)).map fun l => l.map fun x => [x] else none
      | _ => none
    | _ => none
  | some .string => match x with
    | .p (.v (.string b)) => if s = 1 then some (b.data.toList.map fun c => [.v (.int .u8 c.toNat)]) else none
    | _ => none
  | _ => none
theorem Hp.rows (H : Hp P h0 W0 γ L h) {id b o : Nat} {q : Obj} {rows : List (List PV)} (e : L[id]? = some q) (hl : q.isList rows) (hg : γ id = some (b, o)) : ∃ te, Rows P (Free W0 γ L h) h b o te rows := by
  have ho := H.obj id q e
  cases q with
  | li te rs =>
    cases hl
    cases te with
    | none => rw [ho.2] at hg; cases hg
    | some te => obtain ⟨b', o', g', hR⟩ := ho; rw [hg] at g'; cases g'; exact ⟨te, hR⟩
  | fz te rs =>
    cases hl
    cases te with
    | none => rw [ho.2] at hg; cases hg
    | some te => obtain ⟨b', o', g', _, hR⟩ := ho; rw [hg] at g'; cases g'; exact ⟨te, hR⟩
  | st c => exact hl.elim
  | dead => exact hl.elim
theorem flat_all {S : Nat → Prop} {z : Nat} {rows : List (List PV)} {cs : List Value} (hf : FlatR P S h z rows cs) : cs.all Value.oneCell' = true := by
  rw [List.all_eq_true]
  intro u hu
  obtain ⟨k, hk, rfl⟩ := List.mem_iff_getElem.1 hu
  have hz : 0 < z := by
    rcases Nat.eq_zero_or_pos z with q | q
    · rw [hf.len, q] at hk; simp at hk
    · exact q
  have hi : k / z < rows.length := by rw [Nat.div_lt_iff_lt_mul hz, ← hf.len]; exact hk
  have hrw := hf.wide _ (List.getElem_mem hi)
  have hj : k % z < rows[k / z].length := by rw [hrw]; exact Nat.mod_lt _ hz
  refine PR.one (hf.get (k / z) rows[k / z] (k % z) _ _ (List.getElem?_eq_getElem hi) (List.getElem?_eq_getElem hj) ?_)
  rw [show k / z * z + k % z = k by rw [Nat.mul_comm]; exact Nat.div_add_mod k z]
  exact List.getElem?_eq_getElem hk
theorem flat_singles {S : Nat → Prop} {xs : List PV} {vs : List Value} (hr : All2 (PR P S h) xs vs) : FlatR P S h 1 (xs.map fun x => [x]) vs := by
  induction hr with
  | nil => exact flat_nil 1
  | cons hx t ih => exact (flat_one (.cons hx .nil)).append ih
theorem dsrc_sound (H : Hp P h0 W0 γ L h) {s : Nat} {t : TypeId} {x : DV} {v : Value} {rows : List (List PV)} (hx : (DR P (Free W0 γ L h) γ L h) x v) (e : dsrc P L s t x = some rows) :
    ∃ cs, srcV P s t h v = some (rows.length, cs) ∧ FlatR P (Free W0 γ L h) h s rows cs := by
  unfold dsrc at e
  unfold srcV
  split at e
  · rename_i te hu
    simp only [hu]
    split at e
    · rename_i z rs
      split at e
      case isFalse => cases e
      rename_i hz
      subst hz
      cases e
      cases (show PR P (Free W0 γ L h) h _ v from hx) with
      | nil => exact ⟨[], rfl, flat_nil z⟩
      | dud => exact ⟨[], rfl, flat_nil z⟩
      | sl hS hb hz0 hl hz hr hc hm =>
        rename_i b o c cs te rw
        have hf := flat_part (P := P) (h := h) (S := Free W0 γ L h) (cs := cs) (o := o) (z := z) (lo := 0) (n := rows.length) hl (fun r hr => by obtain ⟨i, hi⟩ := List.mem_iff_getElem?.1 hr; exact hz i r hi) (by omega) hr
        simp only [List.drop_zero, List.take_length, Nat.zero_mul, Nat.add_zero] at hf
        by_cases h0r : rows.length = 0
        · have : rows = [] := List.length_eq_zero_iff.1 h0r
          subst this
          exact ⟨[], rfl, flat_nil z⟩
        · simp only [if_neg h0r, hb]
          rw [if_pos ⟨hl, flat_all hf⟩]
          exact ⟨_, rfl, hf⟩
    · cases e
      have : v = .slice none 0 0 := PR.scal (P := P) (S := Free W0 γ L h) (h := h) hx
      subst this
      exact ⟨[], rfl, flat_nil s⟩
    · rename_i id lo n tot
      split at e
      case h_2 => cases e
      rename_i rs hro
      split at e
      case isFalse => cases e
      rename_i hall
      cases e
      obtain ⟨q, q1, q2, q3⟩ := rowsOf_some hro
      have hall' : ∀ r ∈ rs, r.length = s := fun r hr => by have := List.all_eq_true.1 hall r hr; simpa using this
      obtain ⟨k1, k2, k3⟩ := hx
      obtain ⟨k4, k5⟩ := k3 q rs q1 q2
      obtain ⟨k6, k7⟩ := k5 q3
      have hlen : ((rs.drop lo).take n).length = n := by simp; omega
      rw [hlen]
      rcases k7 s hall' with ⟨rfl, h1, h2⟩ | ⟨b, o, c, rfl, h1, h2⟩ | ⟨b, o, c, g, rfl, h1⟩
      · have : n = 0 := by omega
        subst this
        exact ⟨[], rfl, by simpa using flat_nil s⟩
      · subst h1
        exact ⟨[], rfl, by simpa using flat_nil s⟩
      · by_cases hn : n = 0
        · subst hn
          exact ⟨[], rfl, by simpa using flat_nil s⟩
        · obtain ⟨te, cs, z, r1, r2, r3, r4, r5, r6, r7⟩ := H.rows q1 q2 g
          have hne : 0 < rs.length := by omega
          have hzs : z = s := by rw [← r6 _ (List.getElem_mem hne), hall' _ (List.getElem_mem hne)]
          subst hzs
          have hf := flat_part (P := P) (h := h) (S := Free W0 γ L h) r4 r6 (lo := lo) (n := n) (by omega) r7
          simp only [if_neg hn, r1]
          have hm : (lo + n) * z ≤ rs.length * z := Nat.mul_le_mul_right _ (by omega)
          rw [Nat.add_mul] at hm
          rw [if_pos ⟨by omega, flat_all hf⟩]
          exact ⟨_, rfl, hf⟩
    · rename_i id off n
      split at e
      case h_2 => cases e
      rename_i cells hc
      split at e
      case isFalse => cases e
      rename_i hcond
      obtain ⟨rfl, hle⟩ := hcond
      cases hp : pvs ((cells.drop off).take n) with
      | none => rw [hp] at e; cases e
      | some xs =>
        rw [hp] at e; cases e
        obtain ⟨b, h1, _, rfl⟩ := hx
        obtain ⟨b', te, vs, g1, g2, g3⟩ := H.obj id _ hc
        rw [h1] at g1; cases g1
        have hr := pvs_sound ((g3.drop off).take n) hp
        have hlen : xs.length = n := by rw [hr.length, ← ((g3.drop off).take n).length]; simp; omega
        have hf := flat_singles hr
        rw [List.length_map, hlen]
        by_cases hn : n = 0
        · subst hn
          have : xs = [] := List.length_eq_zero_iff.1 hlen
          subst this
          exact ⟨[], rfl, flat_nil 1⟩
        · simp only [if_neg hn, g2, Nat.mul_one]
          rw [if_pos ⟨by rw [← g3.length]; exact hle, flat_all hf⟩]
          exact ⟨_, rfl, hf⟩
    · cases e
  · rename_i hu
    simp only [hu]
    split at e
    · rename_i bs
      split at e
      case isFalse => cases e
      rename_i hs
      subst hs
      cases e
      have : v = .string bs := PR.scal (P := P) (S := Free W0 γ L h) (h := h) hx
      subst this
      simp only [if_true]
      refine ⟨bytesOf bs, ?_, ?_⟩
      · rw [List.length_map]; rfl
      · have key : ∀ l : List UInt8, All2 (PR P (Free W0 γ L h) h) (l.map fun c => PV.v (.int .u8 c.toNat)) (l.map fun c => Value.int .u8 c.toNat) := by
          intro l
          induction l with
          | nil => exact .nil
          | cons c l ih => exact .cons (PR.v rfl) ih
        have := flat_singles (key bs.data.toList)
        rw [List.map_map] at this
        exact this
    · cases e
  · cases e
end
end Go.Sim

namespace Go.Sim
open Go.RowKit
def plMove (γ : Pl) (id b : Nat) : Pl := fun i => if i = id then some (b, 0) else γ i
section
variable {P : Program} {γ : Pl} {L : List Obj} {h : Heap} {h0 : Heap} {W0 : Ent}

theorem FlatR.mono {S S' : Nat → Prop} {h h' : Heap} {z : Nat} {rows : List (List PV)} {cs : List Value} (hf : FlatR P S h z rows cs) (hs : ∀ b, S b → S' b ∧ h'.get b = h.get b) : FlatR P S' h' z rows cs :=
  ⟨hf.len, hf.wide, fun i r j x u e1 e2 e3 => (hf.get i r j x u e1 e2 e3).mono hs⟩
/-- A list moves to a new block. -/
theorem move_li (H : Hp P h0 W0 γ L h) {id : Nat} {te0 : Option TypeId} {te : TypeId} {rows rows' : List (List PV)} {cs : List Value} {z : Nat} {hk : Heap} (hi : L[id]? = some (.li te0 rows)) (hlt : rows.length < rows'.length)
    (hz : szT P te = some z) (h0z : 0 < z) (hm : rows'.length ≤ maxLen) (hf : FlatR P (Free W0 γ L h) h z rows' cs) (hk1 : hk.next = h.next) (hk2 : ∀ b, (∀ x, γ id ≠ some (b, x)) → hk.get b = h.get b) (hte : te0 = none → γ id = none) :
    Hp P h0 W0 (plMove γ id h.next) (L.set id (.li (some te) rows')) (hk.push (.cells cs te true)) ∧ Carry W0 γ L h (plMove γ id h.next) (L.set id (.li (some te) rows')) (hk.push (.cells cs te true)) ∧
      DR P (Free W0 (plMove γ id h.next) (L.set id (.li (some te) rows')) (hk.push (.cells cs te true))) (plMove γ id h.next) (L.set id (.li (some te) rows')) (hk.push (.cells cs te true)) (.ref id 0 rows'.length rows'.length) (sliceOfNew rows'.length unk hk.next) := by
  have hid : id < L.length := (List.getElem?_eq_some_iff.1 hi).1
  have hγ : ∀ j, j ≠ id → plMove γ id h.next j = γ j := fun j hj => if_neg hj
  have hget : ∀ b', b' < h.next → (∀ x, γ id ≠ some (b', x)) → (hk.push (.cells cs te true)).get b' = h.get b' := fun b' hb hx => by
    rw [Heap.get_push_ne _ _ (by omega)]; exact hk2 b' hx
  have hd : (Obj.li te0 rows).owns = true ∨ γ id = none := by
    cases te0 with
    | none => exact .inr (hte rfl)
    | some _ => exact .inl rfl
  have hn : h.next ≤ (hk.push (.cells cs te true)).next := by simp; omega
  have c := carry_write (W0 := W0) (h := h) (γ' := plMove γ id h.next) (h' := hk.push (.cells cs te true)) (o' := .li (some te) rows') hi hd hγ (fun c e => (by cases e)) (fun r' hl' => ⟨rows, rfl, by cases hl'; omega, fun e => by cases hl'; omega⟩) hn
    (fun b x e _ => .inr (by simp [plMove] at e; omega)) hget
  have hdu : unk ≠ dud := by decide
  have hdn : unk ≠ noapp := by decide
  refine ⟨H.write hi hd c hγ hn (fun b x e => .inr (by simp [plMove] at e; omega)) (fun _ _ => hid) hget ?_, c, by simpa using hid, rfl, fun o rs e1 e2 => ?_⟩
  · refine ⟨h.next, 0, by simp [plMove], cs, z, by rw [← hk1]; exact Heap.get_push_self _ _, hz, h0z, by rw [hf.len]; omega, hm, hf.wide, fun i r j x u e1 e2 e3 => c.pr (hf.get i r j x u e1 e2 (by simpa using e3))⟩
  · simp [List.getElem?_set, hid] at e1
    subst e1
    cases e2
    exact ⟨Nat.le_refl _, fun _ => ⟨by omega, fun z' _ => .inr (.inr ⟨h.next, 0, unk, by simp [plMove], by simp [sliceOfNew, hk1], hdu, hdn, .inl rfl⟩)⟩⟩
theorem virtual_li (H : Hp P h0 W0 γ L h) : Hp P h0 W0 γ (L ++ [.li none []]) h ∧ Carry W0 γ L h γ (L ++ [.li none []]) h ∧ DR P (Free W0 γ (L ++ [.li none []]) h) γ (L ++ [.li none []]) h (.ref L.length 0 0 0) (.slice none 0 0) := by
  have hno : γ L.length = none := by
    cases hq : γ L.length with
    | none => rfl
    | some x => have := H.dom _ _ hq; omega
  refine ⟨H.virtual rfl ⟨rfl, hno⟩, carry_virtual _ rfl, by simp, rfl, fun o rs e1 e2 => ?_⟩
  simp at e1
  subst e1
  cases e2
  exact ⟨Nat.le_refl _, fun _ => ⟨by omega, fun z _ => .inl ⟨rfl, rfl, hno⟩⟩⟩

def dappendV (P : Program) (ts : List TypeId) (L : List Obj) (s x : DV) : Option (DV × List Obj) :=
  match ts with
  | [t, t2] => match P.underlying t with
    | some (.slice e) => match P.info? e, zeroCellsT P e with
      | some i, some _ => match dsrc P L i.size t2 x with
        | some ys => match s with
          | .p (.v (.slice none 0 0)) => if 0 < i.size ∧ ys.length ≤ maxLen ∧ ys.length * i.bytes ≤ 140737488355328 then some (.ref L.length 0 ys.length ys.length, L ++ [.li (if ys.length = 0 then none else some e) ys]) else none
          | .ref id lo n tot => match L[id]? with
            | some (.li te rows) => if lo = 0 ∧ rows.length = tot ∧ n = tot ∧ (te = none ∨ te = some e) ∧ 0 < i.size ∧ n + ys.length ≤ maxLen ∧ (n + ys.length) * i.bytes ≤ 140737488355328 then
                some (.ref id 0 (n + ys.length) (n + ys.length), L.set id (.li (if ys.length = 0 then te else some e) (rows ++ ys))) else none
            | _ => none
          | _ => none
        | none => none
      | _, _ => none
    | _ => none
  | _ => none
theorem dappend_sound (H : Hp P h0 W0 γ L h) {ts : List TypeId} {s x d : DV} {v w : Value} {L' : List Obj} (hs : (DR P (Free W0 γ L h) γ L h) s v) (hx : (DR P (Free W0 γ L h) γ L h) x w) (e : dappendV P ts L s x = some (d, L')) :
    ∃ v' h' γ', appendV P ts h v w = some (v', h') ∧ Hp P h0 W0 γ' L' h' ∧ Carry W0 γ L h γ' L' h' ∧ DR P (Free W0 γ' L' h') γ' L' h' d v' := by
  unfold dappendV at e
  split at e
  case h_2 => cases e
  rename_i t t2
  split at e
  case h_2 => cases e
  rename_i te hu
  split at e
  case h_2 => cases e
  rename_i i zz hi hzz
  split at e
  case h_2 => cases e
  rename_i ys hys
  obtain ⟨cs, hsrc, hf⟩ := dsrc_sound H hx hys
  have hsz : szT P te = some i.size := by unfold szT; rw [hi]; rfl
  unfold appendV
  simp only [hu, hi, hzz, hsrc]
  split at e
  · -- nil
    split at e
    case isFalse => cases e
    rename_i hc
    obtain ⟨c1, c2, c3⟩ := hc
    cases e
    have : v = .slice none 0 0 := PR.scal (P := P) (S := Free W0 γ L h) (h := h) hs
    subst this
    by_cases h0y : ys.length = 0
    · have : ys = [] := List.length_eq_zero_iff.1 h0y
      subst this
      simp only [List.length_nil, if_true]
      obtain ⟨a1, a2, a3⟩ := virtual_li H
      exact ⟨_, _, γ, rfl, a1, a2, a3⟩
    · simp only [if_neg h0y]
      rw [if_pos ⟨c2, c3⟩]
      obtain ⟨γ', a1, a2, a3⟩ := new_li H (te := te) (c := unk) hsz c1 (by rw [hf.len]; exact Nat.le_refl _) c2 hf.wide hf.get (.inl rfl)
      exact ⟨_, _, γ', rfl, a1, a2, a3⟩
  · rename_i id lo n tot
    split at e
    case h_2 => cases e
    rename_i te0 rows hli
    split at e
    case isFalse => cases e
    rename_i hc
    obtain ⟨rfl, c1, c2, c3, c4, c5, c6⟩ := hc
    cases e
    subst c1
    subst c2
    by_cases h0y : ys.length = 0
    · have : ys = [] := List.length_eq_zero_iff.1 h0y
      subst this
      have hL : L.set id (.li te0 (rows ++ [])) = L := by
        rw [List.append_nil]
        refine List.ext_getElem? fun j => ?_
        by_cases hj : j = id
        · subst hj
          rw [List.getElem?_set_self (List.getElem?_eq_some_iff.1 hli).1, hli]
        · rw [List.getElem?_set_ne (Ne.symm hj)]
      simp only [List.length_nil, if_true, Nat.add_zero]
      rw [hL]
      have hv : ∃ a n c, v = .slice a n c ∧ (a = none → n = 0 ∧ c = 0) ∧ (∀ q, a = some q → q.spot = none) := by
        obtain ⟨k1, k2, k3⟩ := hs
        obtain ⟨k4, k5⟩ := k3 _ rows hli rfl
        obtain ⟨k6, k7⟩ := k5 rfl
        obtain ⟨z, hz⟩ := H.width hli rfl
        rcases k7 z hz with ⟨rfl, _⟩ | ⟨b, o, c, rfl, _⟩ | ⟨b, o, c, _, rfl, _⟩
        · exact ⟨_, _, _, rfl, fun _ => ⟨rfl, rfl⟩, fun q e => (by cases e)⟩
        · exact ⟨_, _, _, rfl, fun e => (by cases e), fun q e => (by cases e; rfl)⟩
        · exact ⟨_, _, _, rfl, fun e => (by cases e), fun q e => (by cases e; rfl)⟩
      obtain ⟨a, m, c, rfl, ha, hq⟩ := hv
      cases a with
      | none => obtain ⟨rfl, rfl⟩ := ha rfl; exact ⟨_, _, γ, rfl, H, Carry.refl _ _ _, hs⟩
      | some q =>
        obtain ⟨qb, qo, qv⟩ := q
        have := hq _ rfl
        simp only at this
        subst this
        exact ⟨_, _, γ, rfl, H, Carry.refl _ _ _, hs⟩
    · obtain ⟨k1, k2, k3⟩ := hs
      obtain ⟨k4, k5⟩ := k3 _ rows hli rfl
      obtain ⟨k6, k7⟩ := k5 rfl
      obtain ⟨z0, hz0⟩ := H.width hli rfl
      have ho := H.obj id _ hli
      have hlen : (rows ++ ys).length = rows.length + ys.length := List.length_append
      simp only [if_neg h0y]
      cases te0 with
      | none =>
        obtain ⟨rfl, hγn⟩ := ho
        rcases k7 z0 hz0 with ⟨rfl, _⟩ | ⟨b, o, c, rfl, _, h2⟩ | ⟨b, o, c, g, _⟩
        · simp only
          simp only [List.length_nil, Nat.zero_add] at c5 c6
          rw [if_pos ⟨c5, c6⟩]
          obtain ⟨a1, a2, a3⟩ := move_li H (rows' := [] ++ ys) (hk := h) hli (by simp; omega) hsz c4 (by simpa using c5) (by simpa using hf) rfl (fun _ _ => rfl) (fun _ => hγn)
          simp only [List.nil_append, List.length_nil, Nat.zero_add] at a1 a2 a3 ⊢
          exact ⟨_, _, _, rfl, a1, a2, a3⟩
        · simp at h2
        · rw [hγn] at g; cases g
      | some te' =>
        have hte : te' = te := by rcases c3 with c3 | c3 <;> cases c3; rfl
        subst hte
        obtain ⟨b', o', g', cs0, z, r1, r2, r3, r4, r5, r6, r7⟩ := ho
        have hzi : z = i.size := by rw [hsz] at r2; cases r2; rfl
        subst hzi
        rcases k7 _ r6 with ⟨rfl, _, h2⟩ | ⟨b, o, c, rfl, h1, h2⟩ | ⟨b, o, c, g, rfl, d1, d2, d3⟩
        · rw [h2] at g'; cases g'
        · omega
        · rw [g'] at g; cases g
          simp only [Nat.zero_mul, Nat.add_zero]
          rw [if_neg (by rintro (q | q) <;> contradiction), if_pos ⟨c5, c6⟩]
          simp only [r1]
          rw [if_pos ⟨r4, r2, trivial⟩]
          have hf0 := flat_part (P := P) (h := h) (S := Free W0 γ L h) r4 r6 (lo := 0) (n := rows.length) (by omega) r7
          simp only [List.drop_zero, List.take_length, Nat.zero_mul, Nat.add_zero] at hf0
          have hff := hf0.append hf
          have key : ∀ hk : Heap, hk.next = h.next → (∀ b, (∀ x, γ id ≠ some (b, x)) → hk.get b = h.get b) → ∃ v' h'' γ', some (sliceOfNew (rows.length + ys.length) unk hk.next, hk.push (.cells ((cs0.drop o').take (rows.length * i.size) ++ cs) te' true)) = some (v', h'') ∧
              Hp P h0 W0 γ' (L.set id (.li (some te') (rows ++ ys))) h'' ∧ Carry W0 γ L h γ' (L.set id (.li (some te') (rows ++ ys))) h'' ∧ DR P (Free W0 γ' (L.set id (.li (some te') (rows ++ ys))) h'') γ' (L.set id (.li (some te') (rows ++ ys))) h'' (.ref id 0 (rows.length + ys.length) (rows.length + ys.length)) v' := by
            intro hk hk1 hk2
            obtain ⟨a1, a2, a3⟩ := move_li H (rows' := rows ++ ys) (hk := hk) hli (by rw [hlen]; omega) hsz c4 (by rw [hlen]; exact c5) hff hk1 hk2 (fun e => by cases e)
            rw [hlen] at a3
            exact ⟨_, _, _, rfl, a1, a2, a3⟩
          have e1 : h.next = h.next := rfl
          split
          · exact key h rfl fun _ _ => rfl
          · have := key (h.kill b') rfl fun b hb => Heap.get_kill_ne h (by rintro rfl; exact hb o' g')
            exact this
  · cases e
end
end Go.Sim

namespace Go.Sim
open Go.RowKit
theorem bounds_le {n c : Nat} {lo hi mx : Option Value} {l r : Nat} {om : Option Nat} (hc : n ≤ c) (e : boundsV n n lo hi mx = some (l, r, om)) : boundsV n c lo hi mx = some (l, r, om) ∧ l ≤ r ∧ r ≤ n ∧ (∀ m, om = some m → r ≤ m ∧ m ≤ n) := by
  unfold boundsV at e ⊢
  split at e
  · split at e
    · rename_i m vh h1 
      split at e
      · split at e
        · rename_i h2
          rename_i hh _ 
          split at e
          · split at e
            · split at e
              · rename_i vl l' h3 h4
                cases e
                rw [if_pos ⟨by omega, h2.2⟩]
                simp only [h3, if_pos h4]
                exact ⟨trivial, h4, by omega, fun m' e' => by cases e'; omega⟩
              · cases e
            · cases e
          · cases e
            rw [if_pos ⟨by omega, h2.2⟩]
            exact ⟨rfl, by omega, by omega, fun m' e' => by cases e'; omega⟩
        · cases e
      · cases e
    · cases e
  · split at e
    · split at e
      · split at e
        · rename_i h2
          split at e
          · split at e
            · split at e
              · rename_i vl l' h3 h4
                cases e
                rw [if_pos (by omega)]
                simp only [h3, if_pos h4]
                exact ⟨trivial, h4, by omega, fun m' e' => by cases e'⟩
              · cases e
            · cases e
          · cases e
            rw [if_pos (by omega)]
            exact ⟨rfl, by omega, by omega, fun m' e' => by cases e'⟩
        · cases e
      · cases e
    · split at e
      · split at e
        · split at e
          · rename_i vl l' h3 h4
            cases e
            simp only [h3, if_pos h4]
            exact ⟨trivial, by omega, Nat.le_refl _, fun m' e' => by cases e'⟩
          · cases e
        · cases e
      · cases e
        exact ⟨rfl, by omega, Nat.le_refl _, fun m' e' => by cases e'⟩

section
variable {P : Program} {γ : Pl} {L : List Obj} {h : Heap} {h0 : Heap} {W0 : Ent}

def listTy : Obj → Option TypeId
  | .li e _ => e
  | .fz e _ => e
  | _ => none
def dsliceV (P : Program) (L : List Obj) (t : TypeId) (x : DV) (lo hi mx : Option Value) : Option DV :=
  match P.underlying t with
  | some .string => match x with
    | .p (.v (.string s)) => scD (sliceV P (fun _ => none) t (.string s) lo hi mx)
    | _ => none
  | some (.slice e) => match szT P e with
    | some s => match x with
      | .p (.sl z rows) => if z = s then match boundsV rows.length rows.length lo hi mx with
          | some (l, r, none) => some (.p (.sl z ((rows.drop l).take (r - l))))
          | _ => none
        else none
      | .p (.v (.slice none 0 0)) => match boundsV 0 0 lo hi mx with
        | some _ => some (.p (.v (.slice none 0 0)))
        | none => none
      | .ref id a n tot => match rowsOf L id tot with
        | some _ => if (L[id]?.bind listTy).bind (szT P) = some s ∧ 0 < n then match boundsV n n lo hi mx with
            | some (l, r, _) => some (.ref id (a + l) (r - l) tot)
            | none => none
          else none
        | none => none
      | .aref id off n => match boundsV n n lo hi mx with
        | some (l, r, none) => if l < n then some (.aref id (off + l * s) (r - l)) else none
        | _ => none
      | _ => none
    | none => none
  | some (.array n e) => match szT P e with
    | some s => match x with
      | .ptr id off => match boundsV n n lo hi mx with
        | some (l, r, none) => if l < n ∧ n ≤ maxLen then some (.aref id (off + l * s) (r - l)) else none
        | _ => none
      | _ => none
    | none => none
  | _ => none
theorem dslice_sound (H : Hp P h0 W0 γ L h) {t : TypeId} {x d : DV} {v : Value} {lo hi mx : Option Value} (hx : (DR P (Free W0 γ L h) γ L h) x v) (e : dsliceV P L t x lo hi mx = some d) : ∃ u, sliceV P (elemSz P h) t v lo hi mx = some u ∧ (DR P (Free W0 γ L h) γ L h) d u := by
  have hdu : dud > maxLen := by decide
  have hun : unk > maxLen := by decide
  have hno : noapp > maxLen := by decide
  have hnu : noapp ≠ unk := by decide
  have hud : unk ≠ dud := by decide
  have hnd : noapp ≠ dud := by decide
  unfold dsliceV at e
  split at e
  · rename_i hu
    split at e
    case h_2 => cases e
    rename_i s
    have : v = .string s := PR.scal (P := P) (S := Free W0 γ L h) (h := h) hx
    subst this
    obtain ⟨u, e1, r1⟩ := scD_sound (P := P) (S := Free W0 γ L h) (γ := γ) (L := L) (h := h) e
    refine ⟨u, ?_, r1⟩
    rw [← e1]
    unfold sliceV
    simp only [hu]
  · rename_i te hu
    split at e
    case h_2 => cases e
    rename_i s hs
    unfold sliceV
    simp only [hu]
    split at e
    · rename_i z rows
      split at e
      case isFalse => cases e
      rename_i hz
      subst hz
      split at e
      case h_2 => cases e
      rename_i l r hb
      cases e
      obtain ⟨_, hlr, hr, _⟩ := bounds_le (Nat.le_refl _) hb
      cases (show PR P (Free W0 γ L h) h _ v from hx) with
      | nil =>
        simp only [hs]
        rw [show ([] : List (List PV)).length = 0 from rfl] at hb
        simp only [hb]
        refine ⟨_, rfl, ?_⟩
        rw [List.drop_nil, List.take_nil]
        exact PR.nil
      | dud =>
        simp only [hs]
        rw [show sureCap 0 dud = 0 from by decide]
        rw [show ([] : List (List PV)).length = 0 from rfl] at hb
        simp only [hb, if_true]
        refine ⟨_, rfl, ?_⟩
        rw [List.drop_nil, List.take_nil]
        exact PR.dud
      | sl hS hg h0z hl hw hrr hc hm =>
        rename_i b o c cs te' rw'
        have hcap : rows.length ≤ sureCap rows.length c := by
          unfold sureCap
          rcases hc with rfl | ⟨_, _, rfl | ⟨h1, h2⟩⟩
          · rw [if_neg hnu, if_pos rfl]; exact Nat.le_refl _
          · rw [if_pos rfl]; exact Nat.le_refl _
          · rw [if_neg (by omega), if_neg (by omega), if_neg (by omega)]; exact h1
        have hbd := (bounds_le hcap hb).1
        simp only [hs, hbd]
        rw [if_neg hc.nodud]
        have hE : ¬ (c ≠ noapp ∧ elemSz P h b ≠ some z) := by
          rintro ⟨h1, h2⟩
          rcases hc with rfl | ⟨rfl, h3, _⟩
          · exact h1 rfl
          · exact h2 (by unfold elemSz; rw [hg]; exact h3)
        rw [if_neg hE]
        have hlen : ((rows.drop l).take (r - l)).length = r - l := by simp; omega
        have hmul : r * z ≤ rows.length * z := Nat.mul_le_mul_right _ hr
        have hsub : (r - l) * z = r * z - l * z := Nat.sub_mul _ _ _
        have hlz : l * z ≤ r * z := Nat.mul_le_mul_right _ hlr
        have key : ∀ c', CapOk P c' (r - l) rw' te' z → PR P (Free W0 γ L h) h (.sl z ((rows.drop l).take (r - l))) (.slice (some ⟨b, o + l * z, none⟩) (r - l) c') := by
          intro c' hc'
          have := PR.sl (P := P) (S := Free W0 γ L h) (h := h) (rows := (rows.drop l).take (r - l)) (b := b) (o := o + l * z) (c := c') (z := z) hS hg h0z (by rw [hlen, hsub]; omega)
            (fun i q e1 => by
              rw [List.getElem?_take] at e1
              split at e1
              · rw [List.getElem?_drop] at e1; exact hw _ q e1
              · cases e1)
            (fun i q j x u e1 e2 e3 => by
              rw [List.getElem?_take] at e1
              split at e1
              · rw [List.getElem?_drop] at e1
                exact hrr (l + i) q j x u e1 e2 (by rw [← e3]; congr 1; rw [Nat.add_mul]; omega)
              · cases e1) (by rw [hlen]; exact hc') (by rw [hlen]; omega)
          rw [hlen] at this
          exact this
        by_cases hcu : c = unk ∨ c = noapp
        · rw [if_pos hcu]
          by_cases hlt : l < rows.length
          · rw [if_pos hlt]
            refine ⟨_, rfl, key c ?_⟩
            rcases hc with rfl | ⟨h1, h2, rfl | h3⟩
            · exact .inl rfl
            · exact .inr ⟨h1, h2, .inl rfl⟩
            · rcases hcu with rfl | rfl
              · omega
              · omega
          · rw [if_neg hlt]
            have : (rows.drop l).take (r - l) = [] := by rw [show r - l = 0 by omega]; simp
            rw [this]
            exact ⟨_, rfl, PR.dud⟩
        · rw [if_neg hcu]
          rcases hc with rfl | ⟨h1, h2, rfl | ⟨h3, h4⟩⟩
          · exact absurd (.inr rfl) hcu
          · exact absurd (.inl rfl) hcu
          by_cases hcl : c = l
          · rw [if_pos hcl]
            have : r - l = 0 := by omega
            rw [this]
            simp only [List.take_zero]
            refine ⟨_, rfl, ?_⟩
            exact PR.sl (rows := []) (z := z) (c := 0) hS hg h0z (by simp; omega) (by simp) (by simp) (.inr ⟨h1, h2, .inr ⟨Nat.le_refl _, Nat.zero_le _⟩⟩) (Nat.zero_le _)
          · rw [if_neg hcl]
            exact ⟨_, rfl, key (c - l) (.inr ⟨h1, h2, .inr ⟨by omega, by omega⟩⟩)⟩
    · split at e
      case h_2 => cases e
      rename_i q hb
      cases e
      have : v = .slice none 0 0 := PR.scal (P := P) (S := Free W0 γ L h) (h := h) hx
      subst this
      simp only [hs, hb]
      exact ⟨_, rfl, PR.v rfl⟩
    · rename_i id a n tot
      split at e
      case h_2 => cases e
      rename_i rows hro
      split at e
      case isFalse => cases e
      rename_i hcond
      obtain ⟨hsz, hn0⟩ := hcond
      split at e
      case h_2 => cases e
      rename_i l r om hb
      cases e
      obtain ⟨q, q1, q2, q3⟩ := rowsOf_some hro
      obtain ⟨z, hz⟩ := H.width q1 q2
      obtain ⟨k1, k2, k3⟩ := hx
      obtain ⟨k4, k5⟩ := k3 q rows q1 q2
      obtain ⟨k6, k7⟩ := k5 q3
      rcases k7 z hz with ⟨rfl, h1, h2⟩ | ⟨b, o, c, rfl, h1, h2⟩ | ⟨b, o, c, g, rfl, d1, d2, d3⟩
      · omega
      · omega
      obtain ⟨te', cs, z', r1, r2, r3, r4, r5, r6, r7⟩ := H.rows q1 q2 g
      have hne : 0 < rows.length := by omega
      have hzz : z' = z := by rw [← r6 _ (List.getElem_mem hne), hz _ (List.getElem_mem hne)]
      subst hzz
      have hte : listTy q = some te' := by
        have ho := H.obj id q q1
        cases q with
        | li tq rs =>
          cases tq with
          | none => rw [ho.2] at g; cases g
          | some tq =>
            obtain ⟨b', o', g', cs', zz, s1, s2, _⟩ := ho
            rw [g] at g'; cases g'
            rw [r1] at s1; cases s1; rfl
        | fz tq rs =>
          cases tq with
          | none => rw [ho.2] at g; cases g
          | some tq =>
            obtain ⟨b', o', g', _, cs', zz, s1, s2, _⟩ := ho
            rw [g] at g'; cases g'
            rw [r1] at s1; cases s1; rfl
        | st => exact q2.elim
        | dead => exact q2.elim
      have hsz' : z' = s := by
        rw [q1] at hsz
        simp only [Option.bind_some, hte, r2, Option.some.injEq] at hsz
        exact hsz
      subst hsz'
      have hcap : n ≤ sureCap n c := by
        unfold sureCap
        rcases d3 with rfl | ⟨h1, h2⟩
        · rw [if_pos rfl]; exact Nat.le_refl _
        · rw [if_neg (by omega), if_neg (by omega), if_neg (by omega)]; exact h1
      have hcap2 : c ≠ unk → sureCap n c = c := fun hc => by
        unfold sureCap
        rcases d3 with rfl | ⟨h1, h2⟩
        · exact absurd rfl hc
        · rw [if_neg hc, if_neg d2, if_neg d1]
      obtain ⟨hbd, hlr, hr, hom⟩ := bounds_le hcap hb
      simp only [hs, hbd]
      rw [if_neg d1]
      have hE : ¬ (c ≠ noapp ∧ elemSz P h b ≠ some z') := by
        rintro ⟨_, h2⟩
        exact h2 (by unfold elemSz; rw [r1]; exact r2)
      rw [if_neg hE]
      -- what the new slice is
      have fin : ∀ u, ((∃ b' o' c', u = .slice (some ⟨b', o', none⟩) 0 c' ∧ r - l = 0) ∨ (∃ c', u = .slice (some ⟨b, o + a * z' + l * z', none⟩) (r - l) c' ∧ c' ≠ dud ∧ c' ≠ noapp ∧ (c' = unk ∨ (r - l ≤ c' ∧ c' ≤ maxLen)))) → (DR P (Free W0 γ L h) γ L h) (.ref id (a + l) (r - l) tot) u := by
        intro u hu
        refine ⟨k1, ?_, fun q' rows' e1 e2 => ?_⟩
        · rcases hu with ⟨_, _, _, rfl, _⟩ | ⟨_, rfl, _⟩ <;> rfl
        · obtain ⟨m4, m5⟩ := k3 q' rows' e1 e2
          refine ⟨m4, fun e3 => ⟨by omega, fun z2 hz2 => ?_⟩⟩
          have hro' : rows' = rows := by
            rw [q1] at e1; cases e1
            cases q <;> first | (cases q2; cases e2; rfl) | exact q2.elim
          subst hro'
          have hz3 : z2 = z' := by rw [← r6 _ (List.getElem_mem hne), hz2 _ (List.getElem_mem hne)]
          subst hz3
          rcases hu with ⟨b', o', c', rfl, h2⟩ | ⟨c', rfl, f1, f2, f3⟩
          · exact .inr (.inl ⟨b', o', c', rfl, h2, by omega⟩)
          · refine .inr (.inr ⟨b, o, c', g, by rw [Nat.add_mul, Nat.add_assoc], f1, f2, f3⟩)
      have e0 : o + a * z' = o + a * z' := rfl
      cases om with
      | some m =>
        obtain ⟨m1, m2⟩ := hom m rfl
        simp only
        by_cases hml : m = l
        · rw [if_pos hml]
          have : r - l = 0 := by omega
          exact ⟨_, rfl, fin _ (.inl ⟨b, o + a * z', 0, by rw [this], this⟩)⟩
        · rw [if_neg hml, if_neg d2]
          have : m - l ≤ maxLen := by omega
          exact ⟨_, rfl, fin _ (.inr ⟨m - l, rfl, by omega, by omega, .inr ⟨by omega, this⟩⟩)⟩
      | none =>
        simp only
        by_cases hcu : c = unk
        · rw [if_pos (.inl hcu)]
          by_cases hlt : l < n
          · rw [if_pos hlt]
            exact ⟨_, rfl, fin _ (.inr ⟨c, rfl, d1, d2, .inl hcu⟩)⟩
          · rw [if_neg hlt]
            have : r - l = 0 := by omega
            exact ⟨_, rfl, fin _ (.inl ⟨b, o + a * z', dud, rfl, this⟩)⟩
        · rw [if_neg (by rintro (q | q) <;> contradiction)]
          have hd := d3.resolve_left hcu
          by_cases hcl : c = l
          · rw [if_pos hcl]
            have : r - l = 0 := by omega
            exact ⟨_, rfl, fin _ (.inl ⟨b, o + a * z', 0, by rw [this], this⟩)⟩
          · rw [if_neg hcl]
            exact ⟨_, rfl, fin _ (.inr ⟨c - l, rfl, by omega, by omega, .inr ⟨by omega, by omega⟩⟩)⟩
    · rename_i id off n
      split at e
      case h_2 => cases e
      rename_i l r hb
      split at e
      case isFalse => cases e
      rename_i hl
      cases e
      obtain ⟨b, h1, h2, rfl⟩ := hx
      have hcap : sureCap n noapp = n := by unfold sureCap; rw [if_neg hnu, if_pos rfl]
      simp only [hs, hcap, hb]
      rw [if_neg hnd, if_neg (by rintro ⟨q, _⟩; exact q rfl), if_pos (by simp), if_pos hl]
      exact ⟨_, rfl, b, h1, h2, rfl⟩
    · cases e
  · rename_i n te hu
    split at e
    case h_2 => cases e
    rename_i s hs
    split at e
    case h_2 => cases e
    rename_i id off
    split at e
    case h_2 => cases e
    rename_i l r hb
    split at e
    case isFalse => cases e
    rename_i hl
    cases e
    obtain ⟨b, h1, h2, rfl⟩ := hx
    unfold sliceV
    simp only [hu, hs, hb, Option.getD_none]
    rw [if_pos hl.2, if_neg (by omega)]
    exact ⟨_, rfl, b, h1, h2, rfl⟩
  · cases e

def dlenV (P : Program) (L : List Obj) (t : TypeId) (x : DV) : Option DV :=
  match P.underlying t with
  | some (.slice _) => match x with
    | .p (.sl _ rows) => some (.p (.v (goInt rows.length)))
    | .p (.v (.slice none 0 0)) => some (.p (.v (goInt (0 : Nat))))
    | .ref id _ n tot => match rowsOf L id tot with
      | some _ => some (.p (.v (goInt n)))
      | none => none
    | .aref _ _ n => some (.p (.v (goInt n)))
    | _ => none
  | some .string => match x with
    | .p (.v (.string s)) => some (.p (.v (goInt s.size)))
    | _ => none
  | some (.array n _) => match x with
    | .agg _ => some (.p (.v (goInt n)))
    | _ => none
  | _ => none
theorem dlen_sound (H : Hp P h0 W0 γ L h) {t : TypeId} {x d : DV} {v : Value} (hx : (DR P (Free W0 γ L h) γ L h) x v) (e : dlenV P L t x = some d) : ∃ u, lenH P t h v = some u ∧ (DR P (Free W0 γ L h) γ L h) d u := by
  unfold dlenV at e
  unfold lenH
  split at e
  · rename_i te hu
    simp only [hu]
    unfold lenV
    simp only [hu]
    split at e
    · cases e
      cases (show PR P (Free W0 γ L h) h _ v from hx) with
      | nil => exact ⟨_, rfl, PR.v rfl⟩
      | dud => exact ⟨_, rfl, PR.v rfl⟩
      | sl => exact ⟨_, rfl, PR.v rfl⟩
    · cases e
      have : v = .slice none 0 0 := PR.scal (P := P) (S := Free W0 γ L h) (h := h) hx
      subst this
      exact ⟨_, rfl, PR.v rfl⟩
    · rename_i id a n tot
      split at e
      case h_2 => cases e
      rename_i rows hro
      cases e
      obtain ⟨q, q1, q2, q3⟩ := rowsOf_some hro
      obtain ⟨z, hz⟩ := H.width q1 q2
      obtain ⟨k1, k2, k3⟩ := hx
      obtain ⟨k4, k5⟩ := k3 q rows q1 q2
      obtain ⟨k6, k7⟩ := k5 q3
      rcases k7 z hz with ⟨rfl, h1, h2⟩ | ⟨b, o, c, rfl, h1, h2⟩ | ⟨b, o, c, g, rfl, d1⟩
      · have : n = 0 := by omega
        subst this
        exact ⟨_, rfl, PR.v rfl⟩
      · subst h1
        exact ⟨_, rfl, PR.v rfl⟩
      · exact ⟨_, rfl, PR.v rfl⟩
    · cases e
      obtain ⟨b, _, _, rfl⟩ := hx
      exact ⟨_, rfl, PR.v rfl⟩
    · cases e
  · rename_i hu
    simp only [hu]
    split at e
    · cases e
      rename_i s
      have : v = .string s := PR.scal (P := P) (S := Free W0 γ L h) (h := h) hx
      subst this
      exact ⟨_, by simp only [lenV, hu], PR.v rfl⟩
    · cases e
  · rename_i n te hu
    simp only [hu]
    split at e
    · cases e
      obtain ⟨vs, rfl, _⟩ := hx
      exact ⟨_, by simp only [lenV, hu], PR.v rfl⟩
    · cases e
  · cases e
end
end Go.Sim

namespace Go.Sim
open Go.RowKit
section
variable {P : Program} {γ : Pl} {L : List Obj} {h : Heap} {h0 : Heap} {W0 : Ent}

def numsP : List (List PV) → Option (List Int)
  | [] => some []
  | [.v (.int .u8 n)] :: r => (numsP r).map (n :: ·)
  | _ :: _ => none
theorem nums_flat {S : Nat → Prop} : ∀ {rows : List (List PV)} {cs : List Value} {xs : List Int}, FlatR P S h 1 rows cs → numsP rows = some xs → numsOf cs = some xs
  | [], cs, xs, hf, e => by
    cases e
    have : cs = [] := List.length_eq_zero_iff.1 (by rw [hf.len]; rfl)
    subst this; rfl
  | row :: rows, cs, xs, hf, e => by
    unfold numsP at e
    split at e
    · rename_i heq; cases heq
    · rename_i n r heq
      cases heq
      cases hq : numsP rows with
      | none => rw [hq] at e; cases e
      | some ys =>
        rw [hq] at e; cases e
        cases cs with
        | nil => have := hf.len; simp at this
        | cons c cs =>
          have h1 : c = .int .u8 n := PR.scal (P := P) (S := S) (h := h) (hf.get 0 _ 0 _ c rfl rfl rfl)
          subst h1
          have hf' : FlatR P S h 1 rows cs := ⟨by have := hf.len; simp at this; omega, fun r hr => hf.wide r (List.mem_cons_of_mem _ hr), fun i r j x u e1 e2 e3 => hf.get (i + 1) r j x u (by simpa using e1) e2 (by rw [show (i + 1) * 1 + j = (i * 1 + j) + 1 by omega, List.getElem?_cons_succ]; exact e3)⟩
          unfold numsOf
          rw [nums_flat hf' hq]
          rfl
    · cases e
theorem src_bytes {t te : TypeId} {v : Value} {n : Nat} {cs : List Value} {xs : List Int} (hu : P.underlying t = some (.slice te)) (e : srcV P 1 t h v = some (n, cs)) (hn : numsOf cs = some xs) : bytesStrV h v = some (.string (strOfNums xs)) := by
  unfold srcV at e
  simp only [hu] at e
  unfold bytesStrV
  split at e
  · rename_i q; cases q
  · cases e; cases hn; rfl
  · rename_i b o m c _
    simp only
    split at e
    · rename_i h0; cases e; cases hn; rw [if_pos h0]
    · rename_i h0
      rw [if_neg h0]
      split at e
      · rename_i cs' _ _ hg
        split at e
        · rename_i hc
          cases e
          simp only [hg]
          rw [if_pos (by have := hc.1; omega)]
          rw [Nat.mul_one] at hn
          rw [hn]
          rfl
        · cases e
      · cases e
  · cases e
def isByteT (P : Program) (e : TypeId) : Bool := match P.underlying e with
  | some (.int .u8) => true
  | _ => false
theorem isByteT_und {e : TypeId} (h : isByteT P e = true) : P.underlying e = some (.int .u8) := by
  unfold isByteT at h
  split at h
  · assumption
  · cases h
def dconvV (P : Program) (L : List Obj) (s d : TypeId) (x : DV) : Option (DV × List Obj) :=
  match P.underlying s, P.underlying d with
  | some (.slice e), some .string => if isByteT P e = true then match (dsrc P L 1 s x).bind numsP with
      | some xs => some (.p (.v (.string (strOfNums xs))), L)
      | none => none
    else none
  | some .string, some (.slice e) => match x with
    | .p (.v (.string t)) => if isByteT P e = true ∧ szT P e = some 1 ∧ t.size ≤ maxLen then
        some (.ref L.length 0 t.size t.size, L ++ [.li (some e) (t.data.toList.map fun c => [.v (.int .u8 c.toNat)])]) else none
    | _ => none
  | some (.slice _), some (.slice e) => match x with
    | .ref id lo n tot => if s = d ∧ isByteT P e = true ∧ 0 < n ∧ 0 < tot then match L[id]? with
        | some (.li (some _) rows) => if rows.length = tot then some (.ref id lo n tot, L) else none
        | _ => none
      else none
    | _ => none
  | _, _ => match valD x with
    | some v => (scD (convV P s d v)).map fun d => (d, L)
    | none => none
def Aft (P : Program) (h0 : Heap) (W0 : Ent) (γ : Pl) (L : List Obj) (h : Heap) (K : DV → List Obj → Prop) (v : Value) (h' : Heap) : Prop :=
  ∃ γ' d L', K d L' ∧ Hp P h0 W0 γ' L' h' ∧ Carry W0 γ L h γ' L' h' ∧ DR P (Free W0 γ' L' h') γ' L' h' d v
theorem aft_same {K : DV → List Obj → Prop} {d : DV} {v : Value} (H : Hp P h0 W0 γ L h) (hK : K d L) (hd : (DR P (Free W0 γ L h) γ L h) d v) : Aft P h0 W0 γ L h K v h := ⟨γ, d, L, hK, H, Carry.refl _ _ _, hd⟩
theorem dconv_sound (H : Hp P h0 W0 γ L h) {s t : TypeId} {x d : DV} {v : Value} {L' : List Obj} {K : DV → List Obj → Prop} (hx : (DR P (Free W0 γ L h) γ L h) x v) (e : dconvV P L s t x = some (d, L')) (hK : K d L') : convWp P s t v h (Aft P h0 W0 γ L h K) := by
  unfold dconvV at e
  unfold convWp
  split at e
  · rename_i te h1 h2
    simp only [h1, h2]
    split at e
    case isFalse => cases e
    rename_i h3
    refine ⟨isByteT_und h3, ?_⟩
    cases hs : dsrc P L 1 s x with
    | none => rw [hs] at e; cases e
    | some rows =>
      rw [hs] at e
      simp only [Option.bind_some] at e
      cases hn : numsP rows with
      | none => rw [hn] at e; cases e
      | some xs =>
        rw [hn] at e; cases e
        obtain ⟨cs, e1, hf⟩ := dsrc_sound H hx hs
        rw [src_bytes h1 e1 (nums_flat hf hn)]
        exact aft_same H hK (PR.v rfl)
  · rename_i te h1 h2
    split at e
    case h_2 => cases e
    rename_i b
    split at e
    case isFalse => cases e
    rename_i h3
    cases e
    have : v = .string b := PR.scal (P := P) (S := Free W0 γ L h) (h := h) hx
    subst this
    simp only [h1, h2]
    obtain ⟨k1, k2, k3⟩ := h3
    have key : ∀ l : List UInt8, All2 (PR P (Free W0 γ L h) h) (l.map fun c => PV.v (.int .u8 c.toNat)) (l.map fun c => Value.int .u8 c.toNat) := by
      intro l
      induction l with
      | nil => exact .nil
      | cons c l ih => exact .cons (PR.v rfl) ih
    have hf : FlatR P (Free W0 γ L h) h 1 (b.data.toList.map fun c => [PV.v (.int .u8 c.toNat)]) (bytesOf b) := by
      have := flat_singles (key b.data.toList)
      rw [List.map_map] at this
      exact this
    have hlen : (b.data.toList.map fun c => [PV.v (.int .u8 (c.toNat : Int))]).length = b.size := by rw [List.length_map]; rfl
    obtain ⟨γ', a1, a2, a3⟩ := new_li H (te := te) (c := unk) k2 (Nat.zero_lt_one) (by rw [hf.len]; exact Nat.le_refl _) (by rw [hlen]; exact k3) hf.wide hf.get (.inl rfl)
    rw [hlen] at a3
    exact ⟨isByteT_und k1, k2, k3, γ', _, _, hK, a1, a2, a3⟩
  · rename_i te0 te1 h1 h2
    split at e
    case h_2 => cases e
    rename_i id lo n tot
    split at e
    case isFalse => cases e
    rename_i h3
    obtain ⟨rfl, k1, k2, k4⟩ := h3
    have hte : te0 = te1 := by rw [h1] at h2; cases h2; rfl
    subst hte
    split at e
    case h_2 => cases e
    rename_i te rows hid
    split at e
    case isFalse => cases e
    rename_i hlen
    cases e
    obtain ⟨b, o, hg, hrows⟩ := H.obj id _ hid
    obtain ⟨cs, z, r1, r2, r3, r4, r5, r6, r7⟩ := hrows
    have hx' := hx
    obtain ⟨_, _, q3⟩ := hx'
    obtain ⟨_, q5⟩ := q3 _ rows hid rfl
    obtain ⟨_, q7⟩ := q5 hlen
    rcases q7 z r6 with ⟨_, h4, _⟩ | ⟨_, _, _, _, h4, _⟩ | ⟨b', o', c, g, rfl, d1, d2, d3⟩
    · omega
    · omega
    · rw [hg] at g; cases g
      simp only [h1, h2, r1]
      exact ⟨trivial, d1, isByteT_und k1, aft_same H hK hx⟩
  · rename_i n1 n2 n3
    cases hv : valD x with
    | none => rw [hv] at e; cases e
    | some u =>
      have := valD_sound hx hv; subst this
      rw [hv] at e
      cases hc : scD (convV P s t v) with
      | none => simp only [hc] at e; cases e
      | some d' =>
        simp only [hc, Option.map_some, Option.some.injEq, Prod.mk.injEq] at e
        obtain ⟨rfl, rfl⟩ := e
        obtain ⟨u, e1, r1⟩ := scD_sound (P := P) (S := Free W0 γ L h) (γ := γ) (L := L) (h := h) hc
        split
        · rename_i h1 h2; exact absurd h2 (n1 _ h1)
        · rename_i h1 h2; exact absurd h2 (n2 _ h1)
        · rename_i h1 h2; exact absurd h2 (n3 _ _ h1)
        · simp only [e1]
          exact aft_same H hK r1

theorem flat_set {S : Nat → Prop} {z i : Nat} {rows : List (List PV)} {cs ws : List Value} {ps : List PV} (hf : FlatR P S h z rows cs) (hi : i < rows.length) (hl : ps.length = z) (hp : All2 (PR P S h) ps ws) : FlatR P S h z (rows.set i ps) (setMany cs (i * z) ws) := by
  have hmul : (i + 1) * z ≤ rows.length * z := Nat.mul_le_mul_right _ hi
  rw [Nat.succ_mul] at hmul
  have hwl : ws.length = z := by rw [← hp.length]; exact hl
  refine ⟨by simp [hf.len], fun r hr => ?_, fun i' r' j x' w e1 e2 e3 => ?_⟩
  · obtain ⟨j, hj⟩ := List.mem_iff_getElem?.1 hr
    rcases getElem?_set' hj with ⟨_, hj⟩ | ⟨_, _, rfl⟩
    · exact hf.wide r (List.mem_of_getElem? hj)
    · exact hl
  · rw [setMany_get _ _ _ _ (by rw [hwl, hf.len]; omega)] at e3
    rcases getElem?_set' e1 with ⟨hne, e1⟩ | ⟨rfl, _, rfl⟩
    · have hj : j < z := by rw [← hf.wide r' (List.mem_of_getElem? e1)]; exact (List.getElem?_eq_some_iff.1 e2).1
      rw [if_neg ?_] at e3
      · exact hf.get i' r' j x' w e1 e2 e3
      · rw [hwl]
        rintro ⟨a1, a2⟩
        rcases Nat.lt_or_gt_of_ne hne with hlt | hlt
        · have : (i' + 1) * z ≤ i * z := Nat.mul_le_mul_right _ hlt
          rw [Nat.succ_mul] at this
          omega
        · have : (i + 1) * z ≤ i' * z := Nat.mul_le_mul_right _ hlt
          rw [Nat.succ_mul] at this
          omega
    · have hj : j < z := by rw [← hl]; exact (List.getElem?_eq_some_iff.1 e2).1
      rw [if_pos (by rw [hwl]; omega)] at e3
      obtain ⟨w', e4, rr⟩ := hp.get e2
      rw [show i' * z + j - i' * z = j by omega, e4] at e3
      cases e3
      exact rr
def fillRows (z : Nat) (rows : List (List PV)) : List (Nat × DV) → Option (List (List PV))
  | [] => some rows
  | (i, d) :: r => if is1 d = true ∧ i < rows.length then match pvs (cellsD d) with
      | some ps => if ps.length = z then fillRows z (rows.set i ps) r else none
      | none => none
    else none
theorem fillRows_sound {z : Nat} : ∀ {ps : List (Nat × DV)} {qs : List (Nat × Value)} {rows xs : List (List PV)} {cs : List Value}, FlatR P (Free W0 γ L h) h z rows cs → All2 (fun d v => d.1 = v.1 ∧ (DR P (Free W0 γ L h) γ L h) d.2 v.2) ps qs → fillRows z rows ps = some xs →
    ∃ ws, fillL (fun i => some (i * z, z)) cs qs = some ws ∧ FlatR P (Free W0 γ L h) h z xs ws ∧ xs.length = rows.length
  | [], _, rows, xs, cs, hf, .nil, e => by cases e; exact ⟨cs, rfl, hf, rfl⟩
  | (i, d) :: ps, _, rows, xs, cs, hf, .cons (b := (j, v)) hd t, e => by
    obtain ⟨rfl, hd⟩ := hd
    unfold fillRows at e
    unfold fillL
    split at e
    case isFalse => cases e
    rename_i hc
    split at e
    case h_2 => cases e
    rename_i qs hq
    split at e
    case isFalse => cases e
    rename_i hz
    obtain ⟨q1, q2⟩ := d1_cells (d1_of_dr hd hc.1)
    have q3 := pvs_sound q1 hq
    have hsz : v.cells.size = z := by rw [← hz, q3.length]; simp
    have hmul : (i + 1) * z ≤ rows.length * z := Nat.mul_le_mul_right _ hc.2
    rw [Nat.succ_mul] at hmul
    simp only
    rw [if_pos ⟨hsz, by rw [hf.len]; exact hmul⟩]
    obtain ⟨ws, e1, e2, e3⟩ := fillRows_sound (flat_set hf hc.2 hz q3) t e
    exact ⟨ws, e1, e2, by rw [e3]; simp⟩
theorem flat_zeros {S : Nat → Prop} {zs : List Value} {zr : List PV} (hr : All2 (PR P S h) zr zs) (n : Nat) : FlatR P S h zs.length (List.replicate n zr) (zeros zs n) := by
  refine ⟨by rw [length_zeros]; simp, fun r hr' => by rw [List.eq_of_mem_replicate hr', hr.length], fun i r j x u e1 e2 e3 => ?_⟩
  rw [List.getElem?_replicate] at e1
  split at e1
  case isFalse => cases e1
  rename_i hi
  cases e1
  have hj : j < zs.length := by rw [← hr.length]; exact (List.getElem?_eq_some_iff.1 e2).1
  have hmul : (i + 1) * zs.length ≤ n * zs.length := Nat.mul_le_mul_right _ hi
  rw [Nat.succ_mul] at hmul
  rw [zeros_get _ _ _ (by omega)] at e3
  obtain ⟨w, e4, rr⟩ := hr.get e2
  have hmod : (i * zs.length + j) % zs.length = j := by rw [Nat.mul_comm, Nat.mul_add_mod]; exact Nat.mod_eq_of_lt hj
  rw [hmod, e4] at e3
  cases e3
  exact rr
def dbuildSliceV (P : Program) (L : List Obj) (t : TypeId) (len : Nat) (ps : List (Nat × DV)) : Option (DV × List Obj) :=
  match P.underlying t with
  | some (.slice e) => match (zeroD P e).bind pvs, szT P e with
    | some zr, some s => if zr.length = s ∧ len * s ≤ 16777216 ∧ 0 < s ∧ len ≤ maxLen then match fillRows s (List.replicate len zr) ps with
        | some rows => some (.ref L.length 0 len len, L ++ [.li (some e) rows])
        | none => none
      else none
    | _, _ => none
  | _ => none
theorem dbuildSlice_sound (H : Hp P h0 W0 γ L h) {t : TypeId} {len : Nat} {ps : List (Nat × DV)} {qs : List (Nat × Value)} {d : DV} {L' : List Obj} {K : DV → List Obj → Prop} (hr : All2 (fun d v => d.1 = v.1 ∧ (DR P (Free W0 γ L h) γ L h) d.2 v.2) ps qs) (e : dbuildSliceV P L t len ps = some (d, L')) (hK : K d L') :
    ∃ q mk, buildSliceV P t len qs = some (q, mk) ∧ Aft P h0 W0 γ L h K (mk h.next) (h.push q) := by
  unfold dbuildSliceV at e
  unfold buildSliceV
  split at e
  case h_2 => cases e
  rename_i te hu
  simp only [hu]
  split at e
  case h_2 => cases e
  rename_i zr s hz hs
  split at e
  case isFalse => cases e
  rename_i hc
  obtain ⟨c0, c1, c2, c3⟩ := hc
  split at e
  case h_2 => cases e
  rename_i rows hrows
  cases e
  cases hzd : zeroD P te with
  | none => rw [hzd] at hz; cases hz
  | some zs =>
    rw [hzd] at hz
    simp only [Option.bind_some] at hz
    obtain ⟨z, e1, r1⟩ := zeroD_sound (P := P) (γ := γ) (L := L) (h := h) (S := Free W0 γ L h) hzd
    have r2 := pvs_sound r1 hz
    have hzl : z.length = s := by rw [← r2.length]; exact c0
    simp only [e1, hs]
    rw [if_pos ⟨c1, c2, c3⟩]
    have hf := flat_zeros r2 len
    rw [hzl] at hf
    obtain ⟨ws, f1, f2, f3⟩ := fillRows_sound hf hr hrows
    rw [fill_list, f1]
    simp only [Option.map_some]
    have hlen : rows.length = len := by rw [f3]; simp
    obtain ⟨γ', a1, a2, a3⟩ := new_li H (te := te) (c := len) (rows := rows) (cs := ws) hs c2 (by rw [f2.len]; exact Nat.le_refl _) (by rw [hlen]; exact c3) f2.wide f2.get (.inr ⟨by omega, c3⟩)
    rw [hlen] at a3
    exact ⟨_, _, rfl, γ', _, _, hK, a1, a2, a3⟩
end
end Go.Sim

namespace Go.Sim
open Go.RowKit
def withD {α : Type} (o : Option α) (f : α → Prop) : Prop := match o with
  | some d => f d
  | none => False
theorem withD_some {α : Type} (d : α) (f : α → Prop) : withD (some d) f = f d := rfl
theorem withD_elim {α : Type} {o : Option α} {f : α → Prop} (h : withD o f) : ∃ d, o = some d ∧ f d := by
  cases o with
  | none => exact h.elim
  | some d => exact ⟨d, rfl, h⟩
def optD (ρ : DRho) : Option Operand → Option (Option Value)
  | none => some none
  | some x => match ρ x with
    | some d => (valD d).map some
    | none => none
def baseD : DV → Bool
  | .p _ => true
  | .ptr _ _ => true
  | .ep _ _ _ _ => true
  | .dp _ _ => true
  | .ref _ _ _ _ => true
  | .aref _ _ _ => true
  | _ => false
/-- A call, by what it does to all that stands so. -/
def DCallW (P : Program) (f : FuncId) (ds : List DV) (L : List Obj) (K : DV → List Obj → Prop) : Prop :=
  ∀ h0 W0 γ h vs, Hp P h0 W0 γ L h → All2 (DR P (Free W0 γ L h) γ L h) ds vs → ADoes P f vs h (Aft P h0 W0 γ L h K)
def dpickV (c : Option DV) (a b : Option DV) : Option DV := match c with
  | some (.p (.v (.bool t))) => if t then a else b
  | _ => none
def dfuncV (f : Fn) (a b : Option (List DV)) : Option DV := match f, a, b with
  | .func k, some a, some b => if a.all baseD && b.all baseD then some (.fn k a b) else none
  | _, _, _ => none
def dindexV (P : Program) (t : TypeId) (x i : DV) : Option DV :=
  match P.underlying t, x, intD i with
  | some (.array len e), .agg cs, some n => match szT P e with
    | some s => if 0 ≤ n ∧ n.toNat < len then dpartV P e cs (n.toNat * s) else none
    | none => none
  | some .string, .p (.v (.string s)), some n => if 0 ≤ n then scD ((s[n.toNat]?).map fun b => .int .u8 b.toNat) else none
  | _, _, _ => none
def dextractV (x : DV) (i : Nat) : Option DV := match x with
  | .tup xs => xs[i]?
  | _ => none
def dcheckV (L : List Obj) (x : DV) : Option DV := onD L 0 x
def valsOf : List DV → Option (List Value)
  | [] => some []
  | d :: l => match valD d, valsOf l with
    | some v, some vs => some (v :: vs)
    | _, _ => none
def dopWp (P : Program) (o : Op) (ρ : DRho) (L : List Obj) (K : DV → List Obj → Prop) : Prop :=
  match o with
  | .move x => withD (ρ x) fun d => K d L
  | .assign x => withD (ρ x) fun d => K d L
  | .pick c a b => withD (dpickV (ρ c) (ρ a) (ρ b)) fun d => K d L
  | .build t ps => withD (allDP ρ ps.toList) fun ds => withD (dbuildV P t ds) fun d => K d L
  | .field t x f => withD (ρ x) fun x => withD (dfieldV P t x f) fun d => K d L
  | .fieldAddr t x f => withD (ρ x) fun x => withD (dfieldAddrV P L t x f) fun d => K d L
  | .unOp op _ x => withD (ρ x) fun x => withD (valD x) fun v => withD (scD (unV op v)) fun d => K d L
  | .binOp op t x y _ => withD (ρ x) fun x => withD (ρ y) fun y => withD (dbinV P op t x y) fun d => K d L
  | .convert s d x => withD (ρ x) fun x => withD (dconvV P L s d x) fun (d, L') => K d L'
  | .makeFunc f a b => withD (dfuncV f (allD ρ a.toList) (allD ρ b.toList)) fun d => K d L
  | .indexAddr t x i => withD (ρ x) fun x => withD (ρ i) fun i => withD (dindexAddrV P L t x i) fun d => K d L
  | .index t x i => withD (ρ x) fun x => withD (ρ i) fun i => withD (dindexV P t x i) fun d => K d L
  | .extract x i => withD (ρ x) fun x => withD (dextractV x i) fun d => K d L
  | .nilCheck x => withD (ρ x) fun x => withD (dcheckV L x) fun d => K d L
  | .load t x => withD (ρ x) fun x => withD (dloadV P L t x) fun d => K d L
  | .store t x y => withD (ρ x) fun x => withD (ρ y) fun y => withD (dstoreV P L t x y) fun L' => K undD L'
  | .slice t x lo hi mx => withD (ρ x) fun x => withD (optD ρ lo) fun lo => withD (optD ρ hi) fun hi => withD (optD ρ mx) fun mx => withD (dsliceV P L t x lo hi mx) fun d => K d L
  | .box t x => withD (ρ x) fun x => is1 x = true ∧ szT P t = some (cellsD x).length ∧ K (.ptr L.length 0) (L ++ [.st (cellsD x)])
  | .alloc t => withD (zeroD P t) fun z => K (.ptr L.length 0) (L ++ [.st z])
  | .buildSlice t n ps => withD (allDP ρ ps.toList) fun ds => withD (dbuildSliceV P L t n ds) fun (d, L') => K d L'
  | .call { callee := .value f, args := args, argTypes := _ } => withD (ρ f) fun f => withD (allD ρ args.toList) fun ds => match f with
    | .fn k pre cap => DCallW P k (pre ++ ds ++ cap) L K
    | _ => False
  | .call { callee := .builtin .append, args := args, argTypes := ts } => withD (allD ρ args.toList) fun ds => match ds with
    | [s, x] => withD (dappendV P ts.toList L s x) fun (d, L') => K d L'
    | _ => False
  | .call { callee := .builtin .len, args := args, argTypes := ts } => withD (allD ρ args.toList) fun ds => match ds, ts.toList with
    | [x], [t] => withD (dlenV P L t x) fun d => K d L
    | _, _ => False
  | .call { callee := .builtin .min, args := args, argTypes := _ } => withD (allD ρ args.toList) fun ds => withD (valsOf ds) fun vs => withD (scD (minV vs)) fun d => K d L
  | .call { callee := .builtin .max, args := args, argTypes := _ } => withD (allD ρ args.toList) fun ds => withD (valsOf ds) fun vs => withD (scD (maxV vs)) fun d => K d L
  | _ => False
section
variable {P : Program} {γ : Pl} {L : List Obj} {h : Heap} {h0 : Heap} {W0 : Ent} {ρ : DRho} {r : Rho} {K : DV → List Obj → Prop}
theorem optD_sound (hρ : RhoD P W0 γ L h ρ r) {x : Option Operand} {v : Option Value} (e : optD ρ x = some v) : optV r x = some v := by
  cases x with
  | none => cases e; rfl
  | some x =>
    unfold optD at e
    cases hx : ρ x with
    | none => simp only [hx] at e; cases e
    | some d =>
      simp only [hx] at e
      cases hv : valD d with
      | none => rw [hv] at e; cases e
      | some u =>
        rw [hv] at e; cases e
        obtain ⟨w, e1, r1⟩ := hρ x d hx
        have := valD_sound r1 hv
        subst this
        simp [optV, e1]
theorem base_db {S : Nat → Prop} {d : DV} {v : Value} (hb : baseD d = true) (hd : DR P S γ L h d v) : DB P S γ L h d v := by
  cases d <;> first | exact hd | (simp [baseD] at hb)
theorem base_all2 {S : Nat → Prop} : ∀ {ds : List DV} {vs : List Value}, ds.all baseD = true → All2 (DR P S γ L h) ds vs → All2 (DB P S γ L h) ds vs
  | [], _, _, .nil => .nil
  | d :: ds, _, hb, .cons hd t => by
    simp only [List.all_cons, Bool.and_eq_true] at hb
    exact .cons (base_db hb.1 hd) (base_all2 hb.2 t)
theorem valsOf_sound : ∀ {ds : List DV} {vs xs : List Value}, All2 (DR P (Free W0 γ L h) γ L h) ds vs → valsOf ds = some xs → vs = xs
  | [], _, _, .nil, e => by cases e; rfl
  | d :: ds, _, xs, .cons hd t, e => by
    unfold valsOf at e
    cases h1 : valD d with
    | none => rw [h1] at e; cases e
    | some v =>
      cases h2 : valsOf ds with
      | none => rw [h1, h2] at e; cases e
      | some vs =>
        rw [h1, h2] at e; cases e
        rw [valD_sound hd h1, valsOf_sound t h2]
theorem dop_sound (H : Hp P h0 W0 γ L h) (hρ : RhoD P W0 γ L h ρ r) {o : Op} (hk : dopWp P o ρ L K) : opWp P o r h (Aft P h0 W0 γ L h K) := by
  unfold dopWp at hk
  split at hk
  · obtain ⟨d, e, hk⟩ := withD_elim hk
    obtain ⟨v, e1, r1⟩ := hρ _ _ e
    simp only [opWp, pureV, e1]; exact aft_same H hk r1
  · obtain ⟨d, e, hk⟩ := withD_elim hk
    obtain ⟨v, e1, r1⟩ := hρ _ _ e
    simp only [opWp, pureV, e1]; exact aft_same H hk r1
  · obtain ⟨d, e, hk⟩ := withD_elim hk
    unfold dpickV at e
    split at e
    · rename_i t hc
      obtain ⟨v, e1, r1⟩ := hρ _ _ hc
      have : v = .bool t := PR.scal (P := P) (S := Free W0 γ L h) (h := h) r1
      subst this
      simp only [opWp, pureV, e1]
      cases t
      · obtain ⟨u, e2, r2⟩ := hρ _ _ e
        simp only [Bool.false_eq_true, if_false, e2]; exact aft_same H hk r2
      · obtain ⟨u, e2, r2⟩ := hρ _ _ e
        simp only [if_true, e2]; exact aft_same H hk r2
    · cases e
  · obtain ⟨ds, e, hk⟩ := withD_elim hk
    obtain ⟨d, e2, hk⟩ := withD_elim hk
    obtain ⟨vs, e1, r1⟩ := allDP_sound hρ e
    obtain ⟨u, e3, r3⟩ := dbuild_sound r1 e2
    simp only [opWp, pureV, e1, e3]; exact aft_same H hk r3
  · obtain ⟨x, e, hk⟩ := withD_elim hk
    obtain ⟨d, e2, hk⟩ := withD_elim hk
    obtain ⟨v, e1, r1⟩ := hρ _ _ e
    obtain ⟨u, e3, r3⟩ := dfield_sound r1 e2
    simp only [opWp, pureV, e1, e3]; exact aft_same H hk r3
  · obtain ⟨x, e, hk⟩ := withD_elim hk
    obtain ⟨d, e2, hk⟩ := withD_elim hk
    obtain ⟨v, e1, r1⟩ := hρ _ _ e
    obtain ⟨u, e3, r3⟩ := dfieldAddr_sound H r1 e2
    simp only [opWp, pureV, e1, e3]; exact aft_same H hk r3
  · obtain ⟨x, e, hk⟩ := withD_elim hk
    obtain ⟨w, e2, hk⟩ := withD_elim hk
    obtain ⟨d, e3, hk⟩ := withD_elim hk
    obtain ⟨v, e1, r1⟩ := hρ _ _ e
    have hv := valD_sound r1 e2
    rw [hv] at e1
    obtain ⟨u, e4, r4⟩ := scD_sound (P := P) (S := Free W0 γ L h) (γ := γ) (L := L) (h := h) e3
    simp only [opWp, pureV, e1, e4]; exact aft_same H hk r4
  · obtain ⟨x, e, hk⟩ := withD_elim hk
    obtain ⟨y, e2, hk⟩ := withD_elim hk
    obtain ⟨d, e3, hk⟩ := withD_elim hk
    obtain ⟨v, e1, r1⟩ := hρ _ _ e
    obtain ⟨w, e4, r4⟩ := hρ _ _ e2
    obtain ⟨u, e5, r5⟩ := dbin_sound r1 r4 e3
    simp only [opWp, pureV, e1, e4, e5]; exact aft_same H hk r5
  · obtain ⟨x, e, hk⟩ := withD_elim hk
    obtain ⟨⟨d, L'⟩, e2, hk⟩ := withD_elim hk
    obtain ⟨v, e1, r1⟩ := hρ _ _ e
    simp only [opWp, e1]
    exact dconv_sound H r1 e2 hk
  · obtain ⟨d, e, hk⟩ := withD_elim hk
    unfold dfuncV at e
    split at e
    · rename_i f a b h1 h2 
      split at e
      · rename_i hb
        cases e
        simp only [Bool.and_eq_true] at hb
        obtain ⟨us, e1, r1⟩ := allD_sound hρ h1
        obtain ⟨ws, e2, r2⟩ := allD_sound hρ h2
        simp only [opWp, pureV, e1, e2]
        exact aft_same H hk ⟨_, _, rfl, by simpa using base_all2 hb.1 r1, by simpa using base_all2 hb.2 r2⟩
      · cases e
    · cases e
  · obtain ⟨x, e, hk⟩ := withD_elim hk
    obtain ⟨y, e2, hk⟩ := withD_elim hk
    obtain ⟨d, e3, hk⟩ := withD_elim hk
    obtain ⟨v, e1, r1⟩ := hρ _ _ e
    obtain ⟨w, e4, r4⟩ := hρ _ _ e2
    obtain ⟨u, e5, r5⟩ := dindexAddr_sound H r1 r4 e3
    simp only [opWp, pureV, e1, e4, e5]; exact aft_same H hk r5
  · obtain ⟨x, e, hk1⟩ := withD_elim hk
    clear hk
    obtain ⟨y, e2, hk2⟩ := withD_elim hk1
    clear hk1
    obtain ⟨d, e3, hk⟩ := withD_elim hk2
    clear hk2
    obtain ⟨v, e1, r1⟩ := hρ _ _ e
    obtain ⟨w, e4, r4⟩ := hρ _ _ e2
    simp only [opWp, pureV, e1, e4]
    unfold dindexV at e3
    split at e3
    · rename_i len te cs n hu hn
      obtain ⟨k, rfl⟩ := intD_sound r4 hn
      obtain ⟨vs, rfl, r5⟩ := r1
      split at e3
      · rename_i s hs
        split at e3
        · rename_i hc
          have : vs = vs.toList.toArray := by simp
          rw [this, index_array hu hs, if_pos (by omega)]
          obtain ⟨u, e6, r6⟩ := dpart_sound r5 e3
          rw [e6]
          exact aft_same H hk (dr_of_d1 r6)
        · cases e3
      · cases e3
    · rename_i s n hu hn
      obtain ⟨k, rfl⟩ := intD_sound r4 hn
      have : v = .string s := PR.scal (P := P) (S := Free W0 γ L h) (h := h) r1
      subst this
      split at e3
      · rename_i hc
        rw [index_string hu, if_pos hc]
        obtain ⟨u, e6, r6⟩ := scD_sound (P := P) (S := Free W0 γ L h) (γ := γ) (L := L) (h := h) e3
        rw [e6]
        exact aft_same H hk r6
      · cases e3
    · cases e3
  · obtain ⟨x, e, hk⟩ := withD_elim hk
    obtain ⟨d, e2, hk'⟩ := withD_elim hk
    clear hk
    obtain ⟨v, e1, r1⟩ := hρ _ _ e
    unfold dextractV at e2
    split at e2
    · obtain ⟨vs, rfl, r2⟩ := r1
      obtain ⟨u, e3, r3⟩ := r2.get e2
      simp only [opWp, pureV, e1]
      rw [Array.getElem?_toList] at e3
      rw [e3]
      exact aft_same H hk' (dr_of_d1 r3)
    · cases e2
  · obtain ⟨x, e, hk⟩ := withD_elim hk
    obtain ⟨d, e2, hk⟩ := withD_elim hk
    obtain ⟨v, e1, r1⟩ := hρ _ _ e
    obtain ⟨b, o, rfl, r2⟩ := on_sound H r1 e2
    simp only [opWp, pureV, e1]
    exact aft_same H hk r2
  · obtain ⟨x, e, hk⟩ := withD_elim hk
    obtain ⟨d, e2, hk⟩ := withD_elim hk
    obtain ⟨v, e1, r1⟩ := hρ _ _ e
    obtain ⟨u, e3, r3⟩ := dload_sound H r1 e2
    simp only [opWp, e1, e3]; exact aft_same H hk r3
  · obtain ⟨x, e, hk⟩ := withD_elim hk
    obtain ⟨y, e2, hk⟩ := withD_elim hk
    obtain ⟨L', e3, hk⟩ := withD_elim hk
    obtain ⟨v, e1, r1⟩ := hρ _ _ e
    obtain ⟨w, e4, r4⟩ := hρ _ _ e2
    obtain ⟨h', e5, H', c⟩ := dstore_sound H r1 r4 e3
    simp only [opWp, e1, e4, e5]
    exact ⟨γ, _, L', hk, H', c, ⟨#[], rfl, .nil⟩⟩
  · obtain ⟨x, e, hk⟩ := withD_elim hk
    obtain ⟨lo, e2, hk⟩ := withD_elim hk
    obtain ⟨hi, e3, hk⟩ := withD_elim hk
    obtain ⟨mx, e4, hk⟩ := withD_elim hk
    obtain ⟨d, e5, hk⟩ := withD_elim hk
    obtain ⟨v, e1, r1⟩ := hρ _ _ e
    obtain ⟨u, e6, r6⟩ := dslice_sound H r1 e5
    simp only [opWp, e1, optD_sound hρ e2, optD_sound hρ e3, optD_sound hρ e4, e6]
    exact aft_same H hk r6
  · obtain ⟨x, e, hk⟩ := withD_elim hk
    obtain ⟨k1, k2, hk⟩ := hk
    obtain ⟨v, e1, r1⟩ := hρ _ _ e
    obtain ⟨q1, q2⟩ := d1_cells (d1_of_dr r1 k1)
    have hsz : v.cells.size = (cellsD x).length := by rw [q1.length]; simp
    simp only [opWp, newV, e1]
    rw [if_pos (by rw [hsz]; exact k2)]
    obtain ⟨γ', a1, a2, a3⟩ := new_st H _ q1
    exact ⟨γ', _, _, hk, a1, a2, a3⟩
  · obtain ⟨z, e, hk⟩ := withD_elim hk
    obtain ⟨zv, e1, r1⟩ := zeroD_sound (P := P) (γ := γ) (L := L) (h := h) (S := Free W0 γ L h) e
    simp only [opWp, newV, e1]
    obtain ⟨γ', a1, a2, a3⟩ := new_st H _ r1
    exact ⟨γ', _, _, hk, a1, a2, a3⟩
  · obtain ⟨ds, e, hk⟩ := withD_elim hk
    obtain ⟨⟨d, L'⟩, e2, hk⟩ := withD_elim hk
    obtain ⟨vs, e1, r1⟩ := allDP_sound hρ e
    obtain ⟨q, mk, e3, ha⟩ := dbuildSlice_sound H r1 e2 hk
    simp only [opWp, newV, e1, e3]
    exact ha
  · obtain ⟨f, e, hk⟩ := withD_elim hk
    obtain ⟨ds, e2, hk⟩ := withD_elim hk
    obtain ⟨v, e1, r1⟩ := hρ _ _ e
    obtain ⟨vs, e3, r3⟩ := allD_sound hρ e2
    split at hk
    · rename_i k pre cap
      obtain ⟨as, bs, rfl, r4, r5⟩ := r1
      simp only [opWp, e1, e3, callWp]
      have up : ∀ {ds : List DV} {vs : List Value}, All2 (DB P (Free W0 γ L h) γ L h) ds vs → All2 (DR P (Free W0 γ L h) γ L h) ds vs := fun hh => hh.mono fun d v hd => by
        cases d <;> first | exact hd | exact hd.elim
      exact hk h0 W0 γ h _ H (((up r4).append r3).append (up r5))
    · exact hk.elim
  · obtain ⟨ds, e, hk⟩ := withD_elim hk
    obtain ⟨vs, e3, r3⟩ := allD_sound hρ e
    split at hk
    · cases r3 with
      | cons hs t => cases t with
        | cons hx t =>
          cases t
          obtain ⟨⟨d, L'⟩, e2, hk⟩ := withD_elim hk
          obtain ⟨v', h', γ', e4, a1, a2, a3⟩ := dappend_sound H hs hx e2
          simp only [opWp, e3, e4]
          exact ⟨γ', _, _, hk, a1, a2, a3⟩
    · exact hk.elim
  · obtain ⟨ds, e, hk⟩ := withD_elim hk
    obtain ⟨vs, e3, r3⟩ := allD_sound hρ e
    split at hk
    · rename_i ht
      cases r3 with
      | cons hx t =>
        cases t
        obtain ⟨d, e2, hk⟩ := withD_elim hk
        obtain ⟨u, e4, r4⟩ := dlen_sound H hx e2
        simp only [opWp, e3, ht, e4]
        exact aft_same H hk r4
    · exact hk.elim
  · obtain ⟨ds, e, hk⟩ := withD_elim hk
    obtain ⟨xs, e2, hk⟩ := withD_elim hk
    obtain ⟨d, e4, hk⟩ := withD_elim hk
    obtain ⟨vs, e3, r3⟩ := allD_sound hρ e
    have hv := valsOf_sound r3 e2
    rw [hv] at e3
    obtain ⟨u, e5, r5⟩ := scD_sound (P := P) (S := Free W0 γ L h) (γ := γ) (L := L) (h := h) e4
    simp only [opWp, pureV, e3, pureBuiltin, e5]
    exact aft_same H hk r5
  · obtain ⟨ds, e, hk⟩ := withD_elim hk
    obtain ⟨xs, e2, hk⟩ := withD_elim hk
    obtain ⟨d, e4, hk⟩ := withD_elim hk
    obtain ⟨vs, e3, r3⟩ := allD_sound hρ e
    have hv := valsOf_sound r3 e2
    rw [hv] at e3
    obtain ⟨u, e5, r5⟩ := scD_sound (P := P) (S := Free W0 γ L h) (γ := γ) (L := L) (h := h) e4
    simp only [opWp, pureV, e3, pureBuiltin, e5]
    exact aft_same H hk r5
  · exact hk.elim
end
end Go.Sim

namespace Go.Sim
open Go.RowKit

inductive Tr (α : Type) where
  | nil
  | node (v : Option α) (l r : Tr α)
namespace Tr
variable {α : Type}
def get : Tr α → Nat → Option α
  | .nil, _ => none
  | .node v l r, n => if n = 0 then v else if n % 2 = 1 then l.get (n / 2) else r.get (n / 2 - 1)
def set : Nat → Tr α → Nat → Option α → Tr α
  | 0, t, _, _ => t
  | d + 1, .nil, n, x => if n = 0 then .node x .nil .nil else if n % 2 = 1 then .node none (set d .nil (n / 2) x) .nil else .node none .nil (set d .nil (n / 2 - 1) x)
  | d + 1, .node v l r, n, x => if n = 0 then .node x l r else if n % 2 = 1 then .node v (set d l (n / 2) x) r else .node v l (set d r (n / 2 - 1) x)
theorem get_set (x : Option α) : ∀ (d : Nat) (t : Tr α) (n m : Nat), n + 1 < 2 ^ d → (set d t n x).get m = if m = n then x else t.get m
  | 0, t, n, m, h => by simp at h
  | d + 1, .nil, n, m, h => by
    have hp : 2 ^ (d + 1) = 2 * 2 ^ d := by rw [Nat.pow_succ]; omega
    unfold set
    by_cases h0 : n = 0
    · subst h0
      simp only [if_true, get]
      by_cases hm : m = 0 <;> simp [hm]
    · rw [if_neg h0]
      by_cases ho : n % 2 = 1
      · rw [if_pos ho]
        simp only [get]
        by_cases hm : m = 0
        · rw [if_pos hm, if_neg (by omega)]
        · rw [if_neg hm]
          by_cases hmo : m % 2 = 1
          · rw [if_pos hmo, get_set x d .nil (n / 2) (m / 2) (by omega)]
            by_cases he : m = n
            · rw [if_pos (by omega), if_pos he]
            · rw [if_neg (by omega), if_neg he]; rfl
          · rw [if_neg hmo, if_neg (by omega)]
      · rw [if_neg ho]
        simp only [get]
        by_cases hm : m = 0
        · rw [if_pos hm, if_neg (by omega)]
        · rw [if_neg hm]
          by_cases hmo : m % 2 = 1
          · rw [if_pos hmo, if_neg (by omega)]
          · rw [if_neg hmo, get_set x d .nil (n / 2 - 1) (m / 2 - 1) (by omega)]
            by_cases he : m = n
            · rw [if_pos (by omega), if_pos he]
            · rw [if_neg (by omega), if_neg he]; rfl
  | d + 1, .node v l r, n, m, h => by
    have hp : 2 ^ (d + 1) = 2 * 2 ^ d := by rw [Nat.pow_succ]; omega
    unfold set
    by_cases h0 : n = 0
    · subst h0
      simp only [if_true, get]
      by_cases hm : m = 0 <;> simp [hm]
    · rw [if_neg h0]
      by_cases ho : n % 2 = 1
      · rw [if_pos ho]
        simp only [get]
        by_cases hm : m = 0
        · rw [if_pos hm, if_neg (by omega)]; simp [hm]
        · rw [if_neg hm]
          by_cases hmo : m % 2 = 1
          · rw [if_pos hmo, get_set x d l (n / 2) (m / 2) (by omega)]
            by_cases he : m = n
            · rw [if_pos (by omega), if_pos he]
            · rw [if_neg (by omega), if_neg he]; simp [hm, hmo]
          · rw [if_neg hmo, if_neg (by omega)]; simp [hm, hmo]
      · rw [if_neg ho]
        simp only [get]
        by_cases hm : m = 0
        · rw [if_pos hm, if_neg (by omega)]; simp [hm]
        · rw [if_neg hm]
          by_cases hmo : m % 2 = 1
          · rw [if_pos hmo, if_neg (by omega)]; simp [hm, hmo]
          · rw [if_neg hmo, get_set x d r (n / 2 - 1) (m / 2 - 1) (by omega)]
            by_cases he : m = n
            · rw [if_pos (by omega), if_pos he]
            · rw [if_neg (by omega), if_neg he]; simp [hm, hmo]
end Tr

structure PH where
  next : Nat
  t : Tr AObj
def PH.get (p : PH) (b : Nat) : Option AObj := if b < p.next then p.t.get b else none
def PH.heap (p : PH) : Heap := ⟨p.next, p.get, fun b o h => by
  unfold PH.get at h
  split at h
  · assumption
  · cases h⟩
def PH.room : Nat := 1073741824
def PH.push (p : PH) (o : AObj) : PH := ⟨p.next + 1, Tr.set 31 p.t p.next (some o)⟩
def PH.set (p : PH) (b : Nat) (o : AObj) : PH := ⟨p.next, Tr.set 31 p.t b (some o)⟩
def PH.kill (p : PH) (b : Nat) : PH := ⟨p.next, Tr.set 31 p.t b none⟩
theorem Heap.ext' {h h' : Heap} (hn : h.next = h'.next) (hg : ∀ b, h.get b = h'.get b) : h = h' := by
  cases h; cases h'
  simp only at hn hg
  subst hn
  have := funext hg
  subst this
  rfl
end Go.Sim

namespace Go.Sim
open Go.RowKit

abbrev KX := Value → PH → Bool
def up (K : KX) (v : Value) (h : Heap) : Prop := ∃ p : PH, p.heap = h ∧ K v p = true

end Go.Sim

namespace Go.Sim
open Go.RowKit

end Go.Sim

namespace Go.Sim
open Go.RowKit

theorem convWp_mono {P : Program} {s d : TypeId} {x : Value} {h : Heap} {K K' : Value → Heap → Prop} (hk : ∀ v h, K v h → K' v h) (q : convWp P s d x h K) : convWp P s d x h K' := by
  unfold convWp at q ⊢
  split at q
  · refine ⟨q.1, ?_⟩
    have q2 := q.2
    split at q2
    · exact hk _ _ q2
    · exact q2.elim
  · exact ⟨q.1, q.2.1, q.2.2.1, hk _ _ q.2.2.2⟩
  · refine ⟨q.1, q.2.1, q.2.2.1, ?_⟩
    have q2 := q.2.2.2
    split at q2
    · exact hk _ _ q2
    · exact q2.elim
  · split at q
    · exact hk _ _ q
    · exact q.elim
theorem rangeWp_mono {P : Program} {t : TypeId} {x : Value} {h : Heap} {K K' : Value → Heap → Prop} (hk : ∀ v h, K v h → K' v h) (q : rangeWp P t x h K) : rangeWp P t x h K' := by
  unfold rangeWp at q ⊢
  split at q
  · exact hk _ _ q
  · exact hk _ _ q
  · split at q
    · exact hk _ _ q
    · exact q.elim
  · exact q.elim
theorem nextWp_mono {P : Program} {x : Value} {s : Bool} {h : Heap} {K K' : Value → Heap → Prop} (hk : ∀ v h, K v h → K' v h) (q : nextWp P x s h K) : nextWp P x s h K' := by
  unfold nextWp at q ⊢
  split at q
  · split at q
    · split at q
      · rename_i hl; rw [if_pos hl]; exact hk _ _ q
      · rename_i hl; rw [if_neg hl]; exact hk _ _ q
    · exact q.elim
  · split at q
    · exact hk _ _ q
    · split at q
      · exact ⟨q.1, fun e => hk _ _ (q.2.1 e), fun e he hs => hk _ _ (q.2.2 e he hs)⟩
      · exact q.elim
    · exact q.elim
  · exact q.elim
theorem entryWp_mono {P : Program} {x : Value} {h : Heap} {K K' : Value → Heap → Prop} (hk : ∀ v h, K v h → K' v h) (q : entryWp P x h K) : entryWp P x h K' := by
  unfold entryWp at q ⊢
  split at q
  · split at q
    · split at q
      · split at q
        · rename_i hc
          rw [if_pos hc]
          split at q
          · exact hk _ _ q
          · exact q.elim
        · exact q.elim
      · exact q.elim
    · exact q.elim
  · exact q.elim
theorem callWp_mono {P : Program} {f : Value} {vs : List Value} {h : Heap} {K K' : Value → Heap → Prop} (hk : ∀ v h, K v h → K' v h) (q : callWp P f vs h K) : callWp P f vs h K' := by
  unfold callWp at q ⊢
  split at q
  · exact ADoes.mono q hk
  · exact ⟨q.1, AYield.mono q.2 hk⟩
  · exact q.elim
theorem selWp_mono {P : Program} {s : SelectCase} {ρ : Rho} {h : Heap} {K K' : Value → Heap → Prop} (hk : ∀ v h, K v h → K' v h) (q : selWp P s ρ h K) : selWp P s ρ h K' := by
  unfold selWp at q ⊢
  split at q
  · refine ⟨q.1, ?_⟩
    have q2 := q.2
    split at q2
    · rename_i cap buf hg
      try simp only [hg]
      split at q2
      · rename_i x hx
        split at q2
        · rename_i v hv
          try simp only [hx, hv]
          split at q2
          · rename_i hr; rw [if_pos hr]; exact hk _ _ q2
          · rename_i hr; rw [if_neg hr]; exact hk _ _ q2
        · exact q2.elim
      · rename_i hx
        try simp only [hx]
        split at q2
        · exact hk _ _ q2
        · exact hk _ _ q2
    · exact q2.elim
  · exact q.elim
theorem opWp_mono {P : Program} {o : Op} {ρ : Rho} {h : Heap} {K K' : Value → Heap → Prop} (hk : ∀ v h, K v h → K' v h) (q : opWp P o ρ h K) : opWp P o ρ h K' := by
  unfold opWp at q ⊢
  split at q <;> first
    | (split at q <;> first
        | exact convWp_mono hk q
        | exact rangeWp_mono hk q
        | exact nextWp_mono hk q
        | exact entryWp_mono hk q
        | exact callWp_mono hk q
        | exact selWp_mono hk q
        | exact hk _ _ q
        | exact q.elim
        | (split at q <;> first | exact hk _ _ q | exact q.elim))
end Go.Sim

namespace Go.Sim
open Go.RowKit
def guardD (t : Option Tmp) (want : Bool) (a : DFrm) : Option Bool :=
  match t with
  | some t => match dlook t a.l with
    | some (.p (.v (.bool b))) => some (if want then b else !b)
    | some (.tup _) => some false
    | _ => none
  | none => none
def dcWp (P : Program) : List C → (DFrm → List Obj → Prop) → DFrm → List Obj → Prop
  | [], K, a, L => K a L
  | c :: r, K, a, L =>
    match c.g with
    | none => dopWp P c.op a.ev L (fun d L' => dcWp P r K (a.put c.d d) L')
    | some (t, want) => guardWp (guardD t want a) (dopWp P c.op a.ev L (fun d L' => dcWp P r K (a.put c.d d) L')) (dcWp P r K (a.put c.d undD) L)
def slotD (a : DFrm) : Option Tmp → Option DV
  | some t => dlook t a.l
  | none => none
/-- What is read once more. -/
def dreadV (P : Program) (o : Op) (ρ : DRho) (L : List Obj) : Option DV :=
  match o with
  | .load t x => match ρ x with
    | some p => dloadV P L t p
    | none => none
  | .call { callee := .builtin .len, args := args, argTypes := ts } => match allD ρ args.toList, ts.toList with
    | some [x], [t] => dlenV P L t x
    | _, _ => none
  | _ => none
def dchk1 (P : Program) (c : C) (a : DFrm) (L : List Obj) : Prop :=
  withD (dreadV P c.op a.ev L) fun d => withD (valD d) fun x => withD (slotD a c.d) fun d' => withD (valD d') fun y => x = y
def dchk (P : Program) (c : C) (a : DFrm) (L : List Obj) : Prop :=
  match c.g with
  | none => dchk1 P c a L
  | some (t, want) => guardWp (guardD t want a) (dchk1 P c a L) True
def dchkAll (P : Program) (a : DFrm) (L : List Obj) : List C → Prop
  | [] => True
  | c :: r => dchk P c a L ∧ dchkAll P a L r
def ddWp (P : Program) : List (C × List C) → (DFrm → List Obj → Prop) → DFrm → List Obj → Prop
  | [], K, a, L => K a L
  | (c, ks) :: r, K, a, L => dcWp P [c] (fun a L => dchkAll P a L ks ∧ ddWp P r K a L) a L

/-- The frame's slots and the objects, as they stand. -/
structure FR (P : Program) (W0 : Ent) (γ : Pl) (L : List Obj) (h : Heap) (a : DFrm) (fa : Frm) : Prop where
  n : fa.n = a.n
  cnt : W0.cnt = a.c
  slots : ∀ t d, dlook t a.l = some d → ∃ v, fa.get t = some v ∧ DR P (Free W0 γ L h) γ L h d v
section
variable {P : Program} {γ : Pl} {L : List Obj} {h : Heap} {h0 : Heap} {W0 : Ent} {a : DFrm} {fa : Frm}
theorem dr_const {S : Nat → Prop} {v : Value} {d : DV} (e : constD v = some d) : constOk v = true ∧ DR P S γ L h d v := by
  unfold constD at e
  split at e
  · rename_i hs; cases e; exact ⟨scal_const hs, PR.v hs⟩
  · split at e
    · split at e
      · rename_i xs _ hx
        cases e
        refine ⟨by simpa [constOk] using hx, ?_⟩
        have hx' : xs = #[] := by simpa using hx
        rw [hx']
        exact ⟨#[], rfl, .nil⟩
      · cases e
    · cases e
theorem FR.rho (hf : FR P W0 γ L h a fa) : RhoD P W0 γ L h a.ev fa.ev := by
  intro x d e
  cases x with
  | tmp t => exact hf.slots t d e
  | const v =>
    obtain ⟨h1, h2⟩ := dr_const (P := P) (S := Free W0 γ L h) (γ := γ) (L := L) (h := h) e
    exact ⟨v, by simp [Frm.ev, h1], h2⟩
  | func f => cases e; exact ⟨_, rfl, #[], #[], rfl, .nil, .nil⟩
  | global g => cases e
theorem FR.put {γ' : Pl} {L' : List Obj} {h' : Heap} (hf : FR P W0 γ L h a fa) (c : Carry W0 γ L h γ' L' h') {d : DV} {v : Value} (hd : DR P (Free W0 γ' L' h') γ' L' h' d v) (t : Option Tmp) : FR P W0 γ' L' h' (a.put t d) (fa.put t v) := by
  cases t with
  | none => exact ⟨hf.n, hf.cnt, fun t d e => by obtain ⟨v, e1, r⟩ := hf.slots t d e; exact ⟨v, e1, c.dr r⟩⟩
  | some t =>
    unfold DFrm.put Frm.put
    rw [hf.n]
    by_cases ht : t < a.n
    · simp only [ht, if_true]
      refine ⟨rfl, hf.cnt, fun u w e => ?_⟩
      simp only [dlook] at e
      simp only [Frm.get, look_ins]
      by_cases hu : t = u
      · subst hu
        simp at e ⊢
        subst e
        exact hd
      · rw [if_neg hu] at e
        rw [if_neg (Ne.symm hu)]
        obtain ⟨v, e1, r⟩ := hf.slots u w e
        exact ⟨v, e1, c.dr r⟩
    · simp only [ht, if_false]
      exact ⟨hf.n, hf.cnt, fun t d e => by obtain ⟨v, e1, r⟩ := hf.slots t d e; exact ⟨v, e1, c.dr r⟩⟩
theorem dr_undef {S : Nat → Prop} : DR P S γ L h undD undef := ⟨#[], rfl, .nil⟩
theorem guardD_sound (hf : FR P W0 γ L h a fa) {t : Option Tmp} {want b : Bool} (e : guardD t want a = some b) : guardV t want fa = some b := by
  unfold guardD at e
  unfold guardV
  split at e
  · rename_i t
    split at e
    · rename_i c hc
      cases e
      obtain ⟨v, e1, r⟩ := hf.slots _ _ hc
      have : v = .bool c := PR.scal (P := P) (S := Free W0 γ L h) (h := h) r
      subst this
      simp only [e1]
    · rename_i xs hc
      cases e
      obtain ⟨v, e1, vs, rfl, _⟩ := hf.slots _ _ hc
      simp only [e1]
    · cases e
  · cases e
/-- From the one to the other. -/
def Sim (P : Program) (h0 : Heap) (W0 : Ent) (K : DFrm → List Obj → Prop) (fa : Frm) (h : Heap) : Prop := ∃ a L γ, K a L ∧ Hp P h0 W0 γ L h ∧ FR P W0 γ L h a fa
theorem dread_sound (H : Hp P h0 W0 γ L h) (hf : FR P W0 γ L h a fa) {o : Op} {d : DV} (e : dreadV P o a.ev L = some d) : ∃ v, readV P o fa.ev h = some v ∧ (DR P (Free W0 γ L h) γ L h) d v := by
  unfold dreadV at e
  unfold readV
  split at e
  · split at e
    · rename_i p hp
      obtain ⟨v, e1, r1⟩ := hf.rho _ _ hp
      simp only [e1]
      exact dload_sound H r1 e
    · cases e
  · split at e
    · rename_i x t hx ht
      obtain ⟨vs, e1, r1⟩ := allD_sound hf.rho hx
      cases r1 with
      | cons hd tl =>
        cases tl
        simp only [e1, ht]
        exact dlen_sound H hd e
    · cases e
  · cases e
theorem dchk_sound (H : Hp P h0 W0 γ L h) (hf : FR P W0 γ L h a fa) {c : C} (hk : dchk P c a L) : chkF P c fa h := by
  have one : dchk1 P c a L → (slotV fa c.d).isSome = true ∧ readV P c.op fa.ev h = slotV fa c.d := by
    intro hk
    obtain ⟨d, e1, hk⟩ := withD_elim hk
    obtain ⟨x, e2, hk⟩ := withD_elim hk
    obtain ⟨d', e3, hk⟩ := withD_elim hk
    obtain ⟨y, e4, rfl⟩ := withD_elim hk
    obtain ⟨v, f1, r1⟩ := dread_sound H hf e1
    have := valD_sound r1 e2
    rw [this] at f1
    cases hc : c.d with
    | none => rw [hc] at e3; cases e3
    | some t =>
      rw [hc] at e3
      obtain ⟨u, f2, r2⟩ := hf.slots t d' e3
      have := valD_sound r2 e4
      rw [this] at f2
      simp only [slotV]
      rw [f1, f2]
      exact ⟨rfl, rfl⟩
  unfold dchk at hk
  unfold chkF
  cases hg : c.g with
  | none => simp only [hg] at hk ⊢; exact one hk
  | some p =>
    obtain ⟨t, want⟩ := p
    simp only [hg] at hk ⊢
    cases hv : guardD t want a with
    | none => rw [hv] at hk; exact hk.elim
    | some b =>
      rw [hv] at hk
      cases b
      · exact .inl (guardD_sound hf hv)
      · exact .inr (one (hk.1 rfl))
abbrev DQ := Exit → DFrm → List Obj → Prop
def SimQ (P : Program) (h0 : Heap) (W0 : Ent) (Q : DQ) (e : Exit) (fa : Frm) (h : Heap) : Prop := Sim P h0 W0 (Q e) fa h
/-- Code from all that stands so. -/
def DAWp (P : Program) (c : Code) (Q : DQ) (a : DFrm) (L : List Obj) : Prop :=
  ∀ h0 W0 γ h fa, Hp P h0 W0 γ L h → FR P W0 γ L h a fa → AWp P c (SimQ P h0 W0 Q) fa h
def dthenQ (K : DFrm → List Obj → Prop) (Q : DQ) : DQ
  | .normal, a, L => K a L
  | e, a, L => Q e a L
def dblockQ (id : Nat) (Q : DQ) : DQ
  | .exit id', a, L => if id' = id then Q .normal a L else Q (.exit id') a L
  | e, a, L => Q e a L
def dloopW (P : Program) (x : X) (Q : DQ) (a : DFrm) (L : List Obj) : Prop := ∀ c, xOf P c .nil = x → DAWp P (.loop c) Q a L
def dscopeW (P : Program) (x labs : X) (Q : DQ) (a : DFrm) (L : List Obj) : Prop := ∀ c, xOf P c .nil = x → xLab P c .nil .nil = labs → DAWp P (.scope c) Q a L
def drangeW (P : Program) (f : Operand) (ps : List Tmp) (c d : Code) (Q : DQ) (a : DFrm) (L : List Obj) : Prop := DAWp P (.rangeFunc f ps.toArray c d) Q a L
def condD (o : Option DV) (A B : Prop) : Prop := match o with
  | some (.p (.v (.bool b))) => (b = true → A) ∧ (b = false → B)
  | _ => False
/-- With some of the slots only. -/
def KW (K : DFrm → List Obj → Prop) (a : DFrm) (L : List Obj) : Prop := ∃ l', (∀ t d, dlook t l' = some d → dlook t a.l = some d) ∧ K ⟨a.n, a.c, l'⟩ L
theorem FR.sub (hf : FR P W0 γ L h a fa) {l' : List (Nat × DV)} (hs : ∀ t d, dlook t l' = some d → dlook t a.l = some d) : FR P W0 γ L h ⟨a.n, a.c, l'⟩ fa := ⟨hf.n, hf.cnt, fun t d e => hf.slots t d (hs t d e)⟩
theorem KW.refl {K : DFrm → List Obj → Prop} {a : DFrm} {L : List Obj} (h : K a L) : KW K a L := ⟨a.l, fun _ _ e => e, h⟩
def dxWp (P : Program) : X → DQ → DFrm → List Obj → Prop
  | .nil, Q, a, L => Q .normal a L
  | .ret, Q, a, L => Q .ret a L
  | .exit id, Q, a, L => Q (.exit id) a L
  | .goto l, Q, a, L => Q (.goto l) a L
  | .bad, _, _, _ => False
  | .reg l k, Q, a, L => dcWp P l (KW fun a L => dxWp P k Q a L) a L
  | .draw l k, Q, a, L => ddWp P l (KW fun a L => dxWp P k Q a L) a L
  | .cond c x y k, Q, a, L => condD (a.ev c) (KW (dxWp P x (dthenQ (KW fun a L => dxWp P k Q a L) Q)) a L) (KW (dxWp P y (dthenQ (KW fun a L => dxWp P k Q a L) Q)) a L)
  | .block id x k, Q, a, L => dxWp P x (dblockQ id (dthenQ (KW fun a L => dxWp P k Q a L) Q)) a L
  | .loop x k, Q, a, L => dloopW P x (dthenQ (KW fun a L => dxWp P k Q a L) Q) a L
  | .lcons _ _ _, _, _, _ => False
  | .scope x labs k, Q, a, L => dscopeW P x labs (dthenQ (KW fun a L => dxWp P k Q a L) Q) a L
  | .label _ k, Q, a, L => dxWp P k Q a L
  | .range f ps x y k, Q, a, L => drangeW P f ps x y (dthenQ (KW fun a L => dxWp P k Q a L) Q) a L
end
/-- Code from here on, with some of the slots only. -/
def dxHold (P : Program) (x : X) (Q : DQ) (a : DFrm) (L : List Obj) : Prop := KW (dxWp P x Q) a L
end Go.Sim

