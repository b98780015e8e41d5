/- How the seat's facts about types are told. -/
import Derived.Test.YtonejeaomblpiaaGreatA15
set_option linter.unusedSimpArgs false
set_option linter.unusedVariables false
set_option linter.defProp false
namespace Go.Sim
open Go.RowKit
theorem indexAddr_slice {P : Program} {t e : TypeId} {s : Nat} (hu : P.underlying t = some (.slice e)) (hs : szT P e = some s) (b o len c : Nat) (k : IntKind) (i : Int) :
    indexAddrV P t (.slice (some ⟨b, o, none⟩) len c) (.int k i) = if 0 ≤ i ∧ i < len then some (.pointer (some ⟨b, o + i.toNat * s, none⟩)) else none := by
  unfold indexAddrV
  rw [hu]
  by_cases h0 : 0 ≤ i
  · simp only [idxV, h0, if_true, hs]
    have : i.toNat < len ↔ i < len := by omega
    simp [this]
  · simp [idxV, h0]
theorem indexAddr_array {P : Program} {t e : TypeId} {s len : Nat} (hu : P.underlying t = some (.array len e)) (hs : szT P e = some s) (b o : Nat) (k : IntKind) (i : Int) :
    indexAddrV P t (.pointer (some ⟨b, o, none⟩)) (.int k i) = if 0 ≤ i ∧ i < len then some (.pointer (some ⟨b, o + i.toNat * s, none⟩)) else none := by
  unfold indexAddrV
  rw [hu]
  by_cases h0 : 0 ≤ i
  · simp only [idxV, h0, if_true, hs]
    have : i.toNat < len ↔ i < len := by omega
    simp [this]
  · simp [idxV, h0]
theorem index_array {P : Program} {t e : TypeId} {s len : Nat} (hu : P.underlying t = some (.array len e)) (hs : szT P e = some s) (cs : List Value) (k : IntKind) (i : Int) :
    indexV P t (.agg cs.toArray) (.int k i) = if 0 ≤ i ∧ i < len then partV P e cs (i.toNat * s) else none := by
  unfold indexV
  rw [hu]
  by_cases h0 : 0 ≤ i
  · simp only [idxV, h0, if_true, hs]
    have : i.toNat < len ↔ i < len := by omega
    simp [this]
  · simp [idxV, h0]
theorem index_string {P : Program} {t : TypeId} (hu : P.underlying t = some .string) (s : ByteArray) (k : IntKind) (i : Int) :
    indexV P t (.string s) (.int k i) = if 0 ≤ i then (s[i.toNat]?).map (fun b => .int .u8 b.toNat) else none := by
  unfold indexV
  rw [hu]
  by_cases h0 : 0 ≤ i
  · simp only [idxV, h0, if_true]
  · simp [idxV, h0]
/-- A type's zero value. -/
def zeroV (P : Program) (t : TypeId) : Value := ((P.info? t).bind (·.zero)).getD undef
theorem zeroV_cells {P : Program} {t : TypeId} {l : List Value} (h : zeroCellsT P t = some l) : l = (zeroV P t).cells.toList := by
  obtain ⟨i, z, h1, h2, _, h3, _⟩ := zeroCellsT_some h
  simp [zeroV, h1, h2, h3]
theorem alloc_zero {P : Program} {t : TypeId} (h : (zeroCellsT P t).isSome = true) : allocV P t = some (.cells (zeroV P t).cells.toList t true, ptrOfNew) := by
  unfold allocV
  cases hz : zeroCellsT P t with
  | none => rw [hz] at h; cases h
  | some z => simp only [zeroV_cells hz]
theorem box_sz {P : Program} {t : TypeId} {n : Nat} (h : szT P t = some n) (v : Value) : boxV P t v = if n = v.cells.size then some (.cells v.cells.toList t true, ptrOfNew) else none := by
  unfold boxV
  rw [h]
  simp
/-- A structure's or an array's cells, by parts. -/
def fillL (place : Nat → Option (Nat × Nat)) (cells : List Value) : List (Nat × Value) → Option (List Value)
  | [] => some cells
  | (i, v) :: r => match place i with
    | none => none
    | some (off, sz) => if v.cells.size = sz ∧ off + sz ≤ cells.length then fillL place (setMany cells off v.cells.toList) r else none
theorem setMany_foldl : ∀ (l : List Value) (cs : Array Value) (off k : Nat), (l.zipIdx k).foldl (fun cs (x : Value × Nat) => cs.setIfInBounds (off + x.2) x.1) cs = (setMany cs.toList (off + k) l).toArray
  | [], cs, off, k => by simp [setMany]
  | v :: l, cs, off, k => by
    simp only [List.zipIdx_cons, List.foldl_cons]
    rw [setMany_foldl l]
    simp only [setMany, Array.toList_setIfInBounds]
    rfl
theorem fill_list (place : Nat → Option (Nat × Nat)) : ∀ (ps : List (Nat × Value)) (cs : List Value), Instr.fill place cs.toArray ps = (fillL place cs ps).map List.toArray
  | [], cs => rfl
  | (i, v) :: r, cs => by
    unfold Instr.fill fillL
    cases hp : place i with
    | none => rfl
    | some p =>
      obtain ⟨off, sz⟩ := p
      simp only
      by_cases h : v.cells.size = sz ∧ off + sz ≤ cs.length
      · rw [if_pos h, if_neg (by simp; omega)]
        rw [← fill_list place r]
        congr 1
        have := setMany_foldl v.cells.toList cs.toArray off 0
        rw [Nat.add_zero] at this
        rw [← this]
        rw [← Array.foldl_toList, Array.toList_zipIdx]
      · rw [if_neg h, if_pos (by simp; omega)]
        rfl
theorem build_struct {P : Program} {t : TypeId} {fs : Array Field} {ps : List (Nat × Value)} {it : TypeInfo} {z : Value} {places : List (Nat × Nat)} (hu : P.underlying t = some (.struct fs)) (hz : zeroOk P t = true)
    (hi : P.info? t = some it) (hv : it.zero = some z) (hp : fs.toList.mapM (fun f => (P.info? f.type).map fun i => (f.offset, i.size)) = some places) :
    buildV P t ps = (fillL (places[·]?) z.cells.toList ps).map fun l => .agg l.toArray := by
  unfold buildV Program.built
  rw [if_pos hz, hi, hu]
  simp only [hv, hp]
  have e : ∀ i : Nat, places.toArray[i]? = places[i]? := fun i => by simp
  simp only [e]
  have : z.cells = z.cells.toList.toArray := by simp
  rw [this, fill_list]
  rw [← this]
  cases fillL (fun x => places[x]?) z.cells.toList ps <;> rfl
theorem build_array {P : Program} {t e : TypeId} {n : Nat} {ps : List (Nat × Value)} {it ie : TypeInfo} {z : Value} (hu : P.underlying t = some (.array n e)) (hz : zeroOk P t = true)
    (hi : P.info? t = some it) (hv : it.zero = some z) (he : P.info? e = some ie) :
    buildV P t ps = (fillL (fun i => some (i * ie.size, ie.size)) z.cells.toList ps).map fun l => .agg l.toArray := by
  unfold buildV Program.built
  rw [if_pos hz, hi, hu]
  simp only [hv, he]
  have : z.cells = z.cells.toList.toArray := by simp
  rw [this, fill_list]
  rw [← this]
  cases fillL (fun i => some (i * ie.size, ie.size)) z.cells.toList ps <;> rfl
theorem fillL_nil (place : Nat → Option (Nat × Nat)) (cs : List Value) : fillL place cs [] = some cs := rfl
theorem fillL_cons (place : Nat → Option (Nat × Nat)) (cs : List Value) (i : Nat) (v : Value) (r : List (Nat × Value)) : fillL place cs ((i, v) :: r) = match place i with
    | none => none
    | some (off, sz) => if v.cells.size = sz ∧ off + sz ≤ cs.length then fillL place (setMany cs off v.cells.toList) r else none := rfl
attribute [push_cast] fillL_nil fillL_cons
theorem build_of {P : Program} {t : TypeId} {ps : List (Nat × Value)} {xs : Array Value} (hz : zeroOk P t = true) (hb : P.built t ps = some xs) : buildV P t ps = some (.agg xs) := by
  unfold buildV
  rw [if_pos hz, hb]
  rfl
end Go.Sim
namespace Go.Sim
def opsOf : Code → Array Oper
  | .region _ ops _ => ops
  | _ => #[]
def dHold (P : Program) (l : List (C × List C)) (K : Frm → Heap → Prop) (a : Frm) (h : Heap) : Prop := dWp P l K a h
def dAnd (A B : Prop) : Prop := A ∧ B
theorem dAnd_true (B : Prop) : dAnd True B = B := by simp [dAnd]
theorem dWp_nil (P : Program) (K : Frm → Heap → Prop) (a : Frm) (h : Heap) : dWp P [] K a h = K a h := rfl
theorem dWp_plain (P : Program) (c : C) (r : List (C × List C)) (K : Frm → Heap → Prop) (a : Frm) (h : Heap) : dWp P ((c, []) :: r) K a h = cWp P [c] (dWp P r K) a h := by
  simp only [dWp, chkAll, true_and]
theorem dWp_chk (P : Program) (c k : C) (ks : List C) (r : List (C × List C)) (K : Frm → Heap → Prop) (a : Frm) (h : Heap) :
    dWp P ((c, k :: ks) :: r) K a h = cWp P [c] (fun a h => dAnd (chkAll P a h (k :: ks)) (dHold P r K a h)) a h := rfl
theorem chkAll_nil (P : Program) (a : Frm) (h : Heap) : chkAll P a h [] = True := rfl
theorem chkAll_cons (P : Program) (a : Frm) (h : Heap) (c : C) (r : List C) : chkAll P a h (c :: r) = (chkF P c a h ∧ chkAll P a h r) := rfl
theorem chkF_plain (P : Program) (t : Tmp) (o : Op) (a : Frm) (h : Heap) : chkF P ⟨some t, o, none⟩ a h = ((a.get t).isSome = true ∧ readV P o a.ev h = a.get t) := rfl
theorem chkF_guard (P : Program) (t : Tmp) (o : Op) (g : Option Tmp) (want : Bool) (a : Frm) (h : Heap) : chkF P ⟨some t, o, some (g, want)⟩ a h = (guardV g want a = some false ∨ ((a.get t).isSome = true ∧ readV P o a.ev h = a.get t)) := rfl
theorem readV_load (P : Program) (t : TypeId) (x : Operand) (a : Frm) (h : Heap) : readV P (.load t x) a.ev h = (a.ev x).bind (loadV P t h) := by
  simp only [readV]; cases a.ev x <;> rfl
theorem readV_slice (P : Program) (t : TypeId) (x : Operand) (lo hi mx : Option Operand) (a : Frm) (h : Heap) : readV P (.slice t x lo hi mx) a.ev h =
    (a.ev x).bind fun u => match optV a.ev lo, optV a.ev hi, optV a.ev mx with | some l, some hh, some m => sliceV P (elemSz P h) t u l hh m | _, _, _ => none := by
  simp only [readV]; cases a.ev x <;> cases optV a.ev lo <;> cases optV a.ev hi <;> cases optV a.ev mx <;> rfl
theorem draw_go {P : Program} {l : List (C × List C)} {K : Frm → Heap → Prop} {a : Frm} {h : Heap} (q : dWp P l K a h) : dHold P l K a h := q
theorem draw_and {A B : Prop} (x : A) (y : B) : dAnd A B := ⟨x, y⟩
attribute [go_sem ↓] dWp_nil dWp_plain dWp_chk chkAll_nil chkAll_cons chkF_plain chkF_guard
attribute [push_cast] dAnd_true readV_load readV_slice Option.bind_some Option.isSome_some true_and and_true or_true true_or false_or or_false
end Go.Sim
namespace Go.Sim
theorem codeWp_of {P : Program} {c : Code} {id : Nat} {ops : Array Oper} {L : List C} (hc : c = .region id ops false) (hl : ops.toList.map (stripC ops) = L) (Q : Exit → Frm → Heap → Prop) (a : Frm) (h : Heap) : codeWp P c Q a h = cWp P L (Q .normal) a h := by
  subst hc; subst hl; simp [codeWp]
theorem codeWp_drawn {P : Program} {c : Code} {id : Nat} {ops : Array Oper} (hc : c = .region id ops true) (Q : Exit → Frm → Heap → Prop) (a : Frm) (h : Heap) : codeWp P c Q a h = AWp P c Q a h := by
  subst hc; simp [codeWp]
theorem awp_draw_of {P : Program} {c : Code} {id : Nat} {ops : Array Oper} {T : List (List Nat)} {E : List (Nat × List Nat)} {L : List (C × List C)} {Q : Exit → Frm → Heap → Prop} {a : Frm} {h : Heap} (hm : P.follows .mixedOrders = true) (hc : c = .region id ops true)
    (hok : okDraw P ops T E = true) (hl : elabD ops E = L) (hw : dWp P L (Q .normal) a h) : AWp P c Q a h := by
  subst hc; subst hl; exact awp_draw hm hok hw
end Go.Sim
