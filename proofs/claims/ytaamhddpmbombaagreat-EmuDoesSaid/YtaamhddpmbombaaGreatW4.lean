/- Part 4 of the claim EmuDoes: D5, D6, D7, D8, D9, D10, D11, D12, I1, I2, I3, I4, D13 -/
import Derived.Test.YtaamhddpmbombaaGreatW3
set_option linter.unusedSimpArgs false
set_option linter.unusedVariables false
set_option linter.defProp false
noncomputable section
namespace Go.Sim
open Go.RowKit
section
variable {P : Program} {W0 : Ent} {γ : Pl} {L : List Obj} {h : Heap} {ρ : Y2} {r : Rho}
def a5O : Value → Bool
 | .pointer none => true
 | .slice none 0 0 => true
 | .map none => true
 | .nilFunc => true
 | _ => false
def We : DV → Option Value
 | .ptr _ _ => some (.pointer (some ⟨0, 0, none⟩))
 | .dp _ _ => some (.pointer (some ⟨0, 0, none⟩))
 | .fn f _ _ => some (.func (.func f) #[] #[])
 | .p (.sl _ (_ :: _)) => some (.slice (some ⟨0, 0, none⟩) 1 0)
 | _ => none
inductive Alike : Value → Value → Prop
 | ptr (a b : Addr) : Alike (.pointer (some a)) (.pointer (some b))
 | sl (a b : Addr) (n n' c c' : Nat) : Alike (.slice (some a) n c) (.slice (some b) n' c')
 | fn (f g : FuncId) (x x' y y' : Array Value) : Alike (.func (.func f) x y) (.func (.func g) x' y')
theorem Vm {d : DV} {v s : Value} (hd : (DR P (qe W0 γ L h) γ L h) d v) (e : We d = some s) : Alike s v := by
 unfold We at e
 split at e
 ·cases e; obtain ⟨_, _, _, rfl⟩ := hd; exact .ptr _ _
 ·cases e; obtain ⟨_, _, _, _, _, _, _, rfl, _⟩ := hd; exact .ptr _ _
 ·cases e; obtain ⟨_, _, rfl, _⟩ := hd; exact .fn _ _ _ _ _ _
 ·cases e
  cases (show PR P (qe W0 γ L h) h _ v from hd)
  exact .sl _ _ _ _ _ _
 ·cases e
theorem adM {s v y : Value} (ha : Alike s v) (hn : a5O y = true) (d : Nat) (t : TypeId) : eqV P (d + 1) t s y = eqV P (d + 1) t v y ∧ eqV P (d + 1) t y s = eqV P (d + 1) t y v := by
 unfold a5O at hn
 constructor <;> (split at hn <;> first | cases hn | skip) <;> cases ha <;> (unfold eqV; cases P.underlying t with
  | none => rfl
  | some q => cases q <;> rfl)
theorem a1D {s v y : Value} (ha : Alike s v) (hn : a5O y = true) (op : BinOp) (t : TypeId) : zk P op t s y = zk P op t v y ∧ zk P op t y s = zk P op t y v := by
 have h1 := adM (P := P) ha hn 9999 t
 unfold a5O at hn
 constructor <;> (split at hn <;> first | cases hn | skip) <;> cases ha <;> cases op <;> simp only [zk] <;> first | rfl | rw [h1.1] | rw [h1.2]
def ym (P : Program) (op : BinOp) (t : TypeId) (a b : DV) : Option DV :=
 match yc a, yc b with
 | some x, some y => scD (zk P op t x y)
 | none, some y => if a5O y then match We a with
   | some x => scD (zk P op t x y)
   | none => none
  else none
 | some x, none => if a5O x then match We b with
   | some y => scD (zk P op t x y)
   | none => none
  else none
 | none, none => none
theorem aau {op : BinOp} {t : TypeId} {a b d : DV} {u w : Value} (ha : (DR P (qe W0 γ L h) γ L h) a u) (hb : (DR P (qe W0 γ L h) γ L h) b w) (e : ym P op t a b = some d) : ∃ v, zk P op t u w = some v ∧ (DR P (qe W0 γ L h) γ L h) d v := by
 unfold ym at e
 cases h1 : yc a with
 | some x =>
  have := jA ha h1; subst this
  cases h2 : yc b with
  | some y =>
   have := jA hb h2; subst this
   rw [h1, h2] at e
   exact wj e
  | none =>
   rw [h1, h2] at e
   simp only at e
   split at e
   ·rename_i hn
    cases h3 : We b with
    | none => rw [h3] at e; cases e
    | some y =>
     rw [h3] at e
     rw [← (a1D (Vm hb h3) hn op t).2]
     exact wj e
   ·cases e
 | none =>
  cases h2 : yc b with
  | none => rw [h1, h2] at e; cases e
  | some y =>
   have := jA hb h2; subst this
   rw [h1, h2] at e
   simp only at e
   split at e
   ·rename_i hn
    cases h3 : We a with
    | none => rw [h3] at e; cases e
    | some x =>
     rw [h3] at e
     rw [← (a1D (Vm ha h3) hn op t).1]
     exact wj e
   ·cases e
def j6 : List DV → Nat → List DV → List DV
 | cs, _, [] => cs
 | cs, i, v :: r => j6 (cs.set i v) (i + 1) r
theorem Qx {R : DV → Value → Prop} : ∀ {ys : List DV} {ws : List Value} {cs : List DV} {vs : List Value} {i : Nat}, All2 R cs vs → All2 R ys ws → All2 R (j6 cs i ys) (qR vs i ws)
 | [], _, cs, vs, i, h1, .nil => h1
 | y :: ys, w :: ws, cs, vs, i, h1, .cons hy t => by unfold j6 qR; exact Qx (h1.set hy i) t
def vt (P : Program) (t : TypeId) : Option (Nat → Option (Nat × Nat)) :=
 match P.underlying t with
 | some (.struct fs) => (fs.toList.mapM (fun f => (P.info? f.type).map fun i => (f.offset, i.size))).map fun l i => l[i]?
 | some (.array _ e) => (P.info? e).map fun ie i => some (i * ie.size, ie.size)
 | _ => none
def Yj (P : Program) (t : TypeId) : Option (List DV) := match za P t with
 | some z => if z.all scal then some (z.map fun v => .p (.v v)) else none
 | none => none
theorem ado {S : Nat → Prop} {z : List Value} (hz : z.all scal = true) : All2 (DC P S γ L h) (z.map fun v => .p (.v v)) z := by
 induction z with
 | nil => exact .nil
 | cons v z ih =>
  simp only [List.all_cons, Bool.and_eq_true] at hz
  exact .cons (PR.v hz.1) (ih hz.2)
theorem ZE {S : Nat → Prop} {t : TypeId} {ds : List DV} (e : Yj P t = some ds) : ∃ z, za P t = some z ∧ All2 (DC P S γ L h) ds z := by
 unfold Yj at e
 split at e
 ·split at e
  ·rename_i z hz hs; cases e; exact ⟨z, hz, ado hs⟩
  ·cases e
 ·cases e
def Yc (place : Nat → Option (Nat × Nat)) (cells : List DV) : List (Nat × DV) → Option (List DV)
 | [] => some cells
 | (i, v) :: r => match place i with
  | none => none
  | some (off, sz) => if is1 v = true ∧ (zG v).length = sz ∧ off + sz ≤ cells.length then Yc place (j6 cells off (zG v)) r else none
theorem a0b {place : Nat → Option (Nat × Nat)} : ∀ {ps : List (Nat × DV)} {qs : List (Nat × Value)} {cs xs : List DV} {vs : List Value}, All2 (DC P (qe W0 γ L h) γ L h) cs vs → All2 (fun d v => d.1 = v.1 ∧ (DR P (qe W0 γ L h) γ L h) d.2 v.2) ps qs → Yc place cs ps = some xs →
  ∃ ws, Z1 place vs qs = some ws ∧ All2 (DC P (qe W0 γ L h) γ L h) xs ws
 | [], _, cs, xs, vs, h1, .nil, e => by cases e; exact ⟨vs, rfl, h1⟩
 | (i, d) :: ps, _, cs, xs, vs, h1, .cons (b := (j, v)) hd t, e => by
  obtain ⟨rfl, hd⟩ := hd
  unfold Yc at e
  unfold Z1
  cases hp : place i with
  | none => rw [hp] at e; cases e
  | some q =>
   obtain ⟨off, sz⟩ := q
   simp only [hp] at e ⊢
   split at e
   ·rename_i hc
    have h2 := (W8 (yi hd hc.1)).1
    have h3 : v.cells.size = sz := by have := h2.length; rw [← hc.2.1, this]; simp
    rw [if_pos ⟨h3, by rw [← h1.length]; exact hc.2.2⟩]
    exact a0b (Qx h1 h2) t e
   ·cases e
def Wu (P : Program) (t : TypeId) (ps : List (Nat × DV)) : Option DV :=
 match vt P t, Yj P t with
 | some pl, some z => if YD P t then (Yc pl z ps).map .agg else none
 | _, _ => none
theorem a0V {t : TypeId} {pl : Nat → Option (Nat × Nat)} {z : List Value} {ps : List (Nat × Value)} (hp : vt P t = some pl) (hz : za P t = some z) (ho : YD P t = true) :
  K0 P t ps = (Z1 pl z ps).map fun l => .agg l.toArray := by
 obtain ⟨i, zv, h1, h2, _, h3, _⟩ := jG hz
 first | subst h3 | (rw [← h3])
 unfold vt at hp
 split at hp
 ·rename_i fs hu
  cases hm : fs.toList.mapM (fun f => (P.info? f.type).map fun i => (f.offset, i.size)) with
  | none => rw [hm] at hp; cases hp
  | some l =>
   rw [hm] at hp; cases hp
   exact a3Z hu ho h1 h2 hm
 ·rename_i n e hu
  cases hm : P.info? e with
  | none => rw [hm] at hp; cases hp
  | some ie =>
   rw [hm] at hp; cases hp
   exact a6u hu ho h1 h2 hm
 ·cases hp
theorem a3q {t : TypeId} {ps : List (Nat × DV)} {qs : List (Nat × Value)} {d : DV} (hr : All2 (fun d v => d.1 = v.1 ∧ (DR P (qe W0 γ L h) γ L h) d.2 v.2) ps qs) (e : Wu P t ps = some d) : ∃ v, K0 P t qs = some v ∧ (DR P (qe W0 γ L h) γ L h) d v := by
 unfold Wu at e
 split at e
 ·rename_i pl z hp hz
  split at e
  ·rename_i ho
   obtain ⟨zv, h1, h2⟩ := ZE (P := P) (γ := γ) (L := L) (h := h) (S := qe W0 γ L h) hz
   cases hf : Yc pl z ps with
   | none => rw [hf] at e; cases e
   | some xs =>
    rw [hf] at e; cases e
    obtain ⟨ws, h3, h4⟩ := a0b h2 hr hf
    rw [a0V hp h1 ho, h3]
    exact ⟨_, rfl, _, rfl, by simpa using h4⟩
  ·cases e
 ·cases e
def WY (P : Program) (t : TypeId) (x : DV) (f : Nat) : Option DV :=
 match P.underlying t, x with
 | some (.struct fs), .agg cs => match fs[f]? with
  | some fd => Qg P fd.type cs fd.offset
  | none => none
 | _, _ => none
theorem a3K {t : TypeId} {x d : DV} {v : Value} {f : Nat} (hx : (DR P (qe W0 γ L h) γ L h) x v) (e : WY P t x f = some d) : ∃ u, YU P t v f = some u ∧ (DR P (qe W0 γ L h) γ L h) d u := by
 unfold WY at e
 split at e
 ·rename_i fs cs hu
  obtain ⟨vs, rfl, h1⟩ := hx
  unfold YU
  simp only [hu]
  cases hf : fs[f]? with
  | none => rw [hf] at e; cases e
  | some fd =>
   simp only [hf] at e
   obtain ⟨v, e1, h2⟩ := Q1 h1 e
   exact ⟨v, e1, w6 h2⟩
 ·cases e
def ajm (P : Program) (t : TypeId) (f : Nat) : Option Nat :=
 match P.underlying t with
 | some (.struct fs) => match fs[f]? with
  | some fd => match szT P fd.type with
   | some n => if n = 0 then none else some fd.offset
   | none => none
  | none => none
 | _ => none
theorem a1h {t : TypeId} {f k : Nat} (e : ajm P t f = some k) (b o : Nat) : jS P t (.pointer (some ⟨b, o, none⟩)) f = some (.pointer (some ⟨b, o + k, none⟩)) := by
 unfold ajm at e
 unfold jS
 split at e
 ·rename_i fs hu
  simp only [hu]
  split at e
  ·rename_i fd hf
   simp only [hf]
   split at e
   ·rename_i n hn
    simp only [hn]
    split at e
    ·cases e
    ·rename_i h0; cases e; rw [if_neg h0]
   ·cases e
  ·cases e
 ·cases e
def zT (L : List Obj) (id tot : Nat) : Option (List (List PV)) :=
 match L[id]? with
 | some (.li _ rows) => if rows.length = tot then some rows else none
 | some (.fz _ rows) => if rows.length = tot then some rows else none
 | _ => none
theorem jv {id tot : Nat} {rows : List (List PV)} (e : zT L id tot = some rows) : ∃ o, L[id]? = some o ∧ o.isList rows ∧ rows.length = tot := by
 unfold zT at e
 split at e
 ·rename_i hh; split at e
  ·cases e; exact ⟨_, hh, rfl, by assumption⟩
  ·cases e
 ·rename_i hh; split at e
  ·cases e; exact ⟨_, hh, rfl, by assumption⟩
  ·cases e
 ·cases e
theorem Hp.width {h0 : Heap} (H : Hp P h0 W0 γ L h) {id : Nat} {o : Obj} {rows : List (List PV)} (e : L[id]? = some o) (hl : o.isList rows) : ∃ z, ∀ r ∈ rows, r.length = z := by
 have ho := H.obj id o e
 cases o with
 | li t rs =>
  cases hl
  cases t with
  | none => obtain ⟨h1, _⟩ := ho; exact ⟨0, by rw [h1]; simp⟩
  | some t => obtain ⟨_, _, _, _, z, _, _, _, _, _, h1, _⟩ := ho; exact ⟨z, h1⟩
 | fz t rs =>
  cases hl
  cases t with
  | none => obtain ⟨h1, _⟩ := ho; exact ⟨0, by rw [h1]; simp⟩
  | some t => obtain ⟨_, _, _, _, _, z, _, _, _, _, _, h1, _⟩ := ho; exact ⟨z, h1⟩
 | st c => exact hl.elim
 | mp c => exact hl.elim
 | dead => exact hl.elim
def onD (L : List Obj) (k : Nat) : DV → Option DV
 | .ptr id off => some (.ptr id (off + k))
 | .ep id i off tot => match zT L id tot with
  | some _ => some (.ep id i (off + k) tot)
  | none => none
 | .dp row off => some (.dp row (off + k))
 | _ => none
theorem alO {h0 : Heap} (H : Hp P h0 W0 γ L h) {id i off tot k : Nat} {v : Value} {rows : List (List PV)} (hx : (DR P (qe W0 γ L h) γ L h) (.ep id i off tot) v) (e : zT L id tot = some rows) :
  ∃ b o, v = .pointer (some ⟨b, o, none⟩) ∧ (DR P (qe W0 γ L h) γ L h) (.ep id i (off + k) tot) (.pointer (some ⟨b, o + k, none⟩)) := by
 obtain ⟨q, h1, h2, h3⟩ := jv e
 obtain ⟨z, hz⟩ := H.width h1 h2
 obtain ⟨k1, k2, k3⟩ := hx
 obtain ⟨k4, k5⟩ := k3 q rows h1 h2
 obtain ⟨k6, k7⟩ := k5 h3
 obtain ⟨b, o, g, rfl⟩ := k7 z hz
 refine ⟨b, _, rfl, k1, rfl, fun q' rows' e1 e2 => ?_⟩
 obtain ⟨m4, m5⟩ := k3 q' rows' e1 e2
 refine ⟨m4, fun e3 => ?_⟩
 obtain ⟨m6, m7⟩ := m5 e3
 refine ⟨m6, fun z' hz' => ?_⟩
 obtain ⟨b', o', g', e'⟩ := m7 z' hz'
 rw [g] at g'
 cases g'
 refine ⟨b, o, g, ?_⟩
 have e2 : o + i * z + off = o + i * z' + off := by
  simp only [Value.pointer.injEq, Option.some.injEq, Addr.mk.injEq, true_and, and_true] at e'
  exact e'
 rw [show o + i * z + off + k = o + i * z' + (off + k) by omega]
theorem U3 {h0 : Heap} (H : Hp P h0 W0 γ L h) {x d : DV} {v : Value} {k : Nat} (hx : (DR P (qe W0 γ L h) γ L h) x v) (e : onD L k x = some d) : ∃ b o, v = .pointer (some ⟨b, o, none⟩) ∧ (DR P (qe W0 γ L h) γ L h) d (.pointer (some ⟨b, o + k, none⟩)) := by
 unfold onD at e
 split at e
 ·cases e
  obtain ⟨b, h1, h2, rfl⟩ := hx
  exact ⟨b, _, rfl, b, h1, h2, rfl⟩
 ·split at e
  ·rename_i rows hr
   cases e
   exact alO H hx hr
  ·cases e
 ·cases e
  obtain ⟨b, o, cs, e, rw, h1, h2, rfl, h3⟩ := hx
  exact ⟨b, _, rfl, b, o, cs, e, rw, h1, h2, by rw [Nat.add_assoc], h3⟩
 ·cases e
def Q5 (P : Program) (L : List Obj) (t : TypeId) (x : DV) (f : Nat) : Option DV := match ajm P t f with
 | some k => onD L k x
 | none => none
theorem Vp {h0 : Heap} (H : Hp P h0 W0 γ L h) {t : TypeId} {x d : DV} {v : Value} {f : Nat} (hx : (DR P (qe W0 γ L h) γ L h) x v) (e : Q5 P L t x f = some d) : ∃ u, jS P t v f = some u ∧ (DR P (qe W0 γ L h) γ L h) d u := by
 unfold Q5 at e
 split at e
 ·rename_i k hk
  obtain ⟨b, o, rfl, h1⟩ := U3 H hx e
  exact ⟨_, a1h hk b o, h1⟩
 ·cases e
end
open Go.RowKit
section
variable {P : Program} {γ : Pl} {L : List Obj} {h : Heap} {h0 : Heap} {W0 : Ent}
theorem a6m {S : Nat → Prop} {row : List PV} {cs : List Value} {o : Nat} (hl : o + row.length ≤ cs.length) (hr : ∀ (j : Nat) (x : PV) (u : Value), row[j]? = some x → cs[o + j]? = some u → PR P S h x u) :
  All2 (DC P S γ L h) (row.map .p) ((cs.drop o).take row.length) := by
 refine All2.of_get (by simp; omega) fun j d u e1 e2 => ?_
 rw [List.getElem?_map] at e1
 cases hx : row[j]? with
 | none => rw [hx] at e1; cases e1
 | some x =>
  rw [hx] at e1; cases e1
  rw [List.getElem?_take] at e2
  split at e2
  ·rw [List.getElem?_drop] at e2; exact hr j x u hx e2
  ·cases e2
theorem abz {t : TypeId} {cs : List Value} {o n off : Nat} {v : Value} (hl : o + n ≤ cs.length) (e : yp P t ((cs.drop o).take n) off = some v) : yp P t cs (o + off) = some v := by
 unfold yp at e ⊢
 cases hu : P.underlying t with
 | none => simp [hu] at e
 | some q =>
  simp only [hu] at e ⊢
  by_cases ha : a1d P t = true
  ·simp only [ha, if_true] at e ⊢
   cases hs : szT P t with
   | none => simp [hs] at e
   | some k =>
    simp only [hs] at e ⊢
    split at e
    ·rename_i hk
     simp at hk
     rw [if_pos (by omega), ← e]
     congr 2
     rw [List.drop_take, List.take_take, List.drop_drop, Nat.min_eq_left (by omega)]
    ·cases e
  ·simp only [ha] at e ⊢
   simp only [Bool.false_eq_true, if_false] at e ⊢
   rw [List.getElem?_take] at e
   split at e
   ·rw [List.getElem?_drop] at e; exact e
   ·cases e
def ahJ (d : DV) : Option Int := match d with
 | .p (.v (.int _ n)) => some n
 | _ => none
theorem v7 {d : DV} {v : Value} {n : Int} (hd : (DR P (qe W0 γ L h) γ L h) d v) (e : ahJ d = some n) : ∃ k, v = .int k n := by
 unfold ahJ at e
 split at e
 ·rename_i k m
  cases e
  exact ⟨k, PR.scal (P := P) (S := qe W0 γ L h) (h := h) hd⟩
 ·cases e
def wR (P : Program) (L : List Obj) (t : TypeId) (x i : DV) : Option DV :=
 match ahJ i with
 | none => none
 | some n => if 0 ≤ n then
   match P.underlying t with
   | some (.slice e) => match szT P e with
    | some s => match x with
     | .p (.sl z rows) => if z = s then match rows[n.toNat]? with
       | some row => some (.dp row 0)
       | none => none
      else none
     | .ref id lo m tot => match zT L id tot with
      | some rows => if n.toNat < m then match rows[lo + n.toNat]? with
        | some row => if row.length = s then some (.ep id (lo + n.toNat) 0 tot) else none
        | none => none
       else none
      | none => none
     | .aref id off m => if n.toNat < m then some (.ptr id (off + n.toNat * s)) else none
     | _ => none
    | none => none
   | some (.array len e) => match szT P e with
    | some s => if n.toNat < len then onD L (n.toNat * s) x else none
    | none => none
   | _ => none
  else none
theorem xh (H : Hp P h0 W0 γ L h) {t : TypeId} {x i d : DV} {v w : Value} (hx : (DR P (qe W0 γ L h) γ L h) x v) (hi : (DR P (qe W0 γ L h) γ L h) i w) (e : wR P L t x i = some d) : ∃ u, jc P t v w = some u ∧ (DR P (qe W0 γ L h) γ L h) d u := by
 unfold wR at e
 split at e
 ·cases e
 rename_i n hn
 obtain ⟨k, rfl⟩ := v7 hi hn
 split at e
 case isFalse => cases e
 rename_i h0n
 split at e
 ·rename_i t' hu
  split at e
  case h_2 => cases e
  rename_i s hs
  split at e
  ·rename_i z rows
   split at e
   case isFalse => cases e
   rename_i hz
   subst hz
   split at e
   case h_2 => cases e
   rename_i row hrow
   cases e
   have hlt : n.toNat < rows.length := (List.getElem?_eq_some_iff.1 hrow).1
   cases (show PR P (qe W0 γ L h) h _ v from hx) with
   | nil => simp at hlt
   | dud => simp at hlt
   | zero => simp at hlt
   | sl hS hb h0 hl hz hr hc hm =>
    rename_i b o c cs te rw
    rw [Qd hu hs, if_pos (by omega)]
    refine ⟨_, rfl, b, o + n.toNat * z, cs, te, rw, hS, hb, rfl, ?_, fun j x u e1 e2 => hr n.toNat row j x u hrow e1 e2⟩
    rw [hz _ _ hrow]
    have : (n.toNat + 1) * z ≤ rows.length * z := Nat.mul_le_mul_right _ hlt
    rw [Nat.succ_mul] at this
    omega
  ·rename_i id lo m tot
   split at e
   case h_2 => cases e
   rename_i rows hro
   split at e
   case isFalse => cases e
   rename_i hm
   split at e
   case h_2 => cases e
   rename_i row hrow
   split at e
   case isFalse => cases e
   rename_i hsz
   cases e
   obtain ⟨q, q1, q2, q3⟩ := jv hro
   obtain ⟨z, hz⟩ := H.width q1 q2
   have hzs : z = s := by rw [← hz row (List.mem_of_getElem? hrow)]; exact hsz
   subst hzs
   obtain ⟨k1, k2, k3⟩ := hx
   obtain ⟨k4, k5⟩ := k3 q rows q1 q2
   obtain ⟨k6, k7⟩ := k5 q3
   rcases k7 z hz with ⟨_, h1, h2⟩ | ⟨b, o, c, rfl, h1, h2⟩ | ⟨b, o, c, g, rfl, h1⟩
   ·omega
   ·omega
   ·rw [Qd hu hs, if_pos (by omega)]
    have hadd : o + lo * z + n.toNat * z = o + (lo + n.toNat) * z + 0 := by rw [Nat.add_mul]; omega
    rw [hadd]
    refine ⟨_, rfl, k1, rfl, fun q' rows' e1 e2 => ?_⟩
    obtain ⟨m4, m5⟩ := k3 q' rows' e1 e2
    refine ⟨m4, fun e3 => ?_⟩
    obtain ⟨m6, m7⟩ := m5 e3
    refine ⟨by omega, fun z' hz' => ?_⟩
    have hro' : rows' = rows := by
     rw [q1] at e1; cases e1
     cases q <;> first | (cases q2; cases e2; rfl) | exact q2.elim
    subst hro'
    have hzz : z' = z := by rw [← hz row (List.mem_of_getElem? hrow), hz' row (List.mem_of_getElem? hrow)]
    subst hzz
    exact ⟨b, o, g, rfl⟩
  ·rename_i id off m
   split at e
   case isFalse => cases e
   rename_i hm
   cases e
   obtain ⟨b, h1, h2, rfl⟩ := hx
   rw [Qd hu hs, if_pos (by omega)]
   exact ⟨_, rfl, b, h1, h2, rfl⟩
  ·cases e
 ·rename_i len t' hu
  split at e
  case h_2 => cases e
  rename_i s hs
  split at e
  case isFalse => cases e
  rename_i hlen
  obtain ⟨b, o, rfl, h1⟩ := U3 H hx e
  rw [Xf hu hs, if_pos (by omega)]
  exact ⟨_, rfl, h1⟩
 ·cases e
def jT (P : Program) (L : List Obj) (t : TypeId) (x : DV) : Option DV :=
 match x with
 | .ptr id off => match L[id]? with
  | some (.st cells) => Qg P t cells off
  | _ => none
 | .ep id i off tot => match zT L id tot with
  | some rows => match rows[i]? with
   | some row => Qg P t (row.map .p) off
   | none => none
  | none => none
 | .dp row off => Qg P t (row.map .p) off
 | _ => none
theorem Zo (H : Hp P h0 W0 γ L h) {t : TypeId} {x d : DV} {v : Value} (hx : (DR P (qe W0 γ L h) γ L h) x v) (e : jT P L t x = some d) : ∃ u, jh P t h v = some u ∧ (DR P (qe W0 γ L h) γ L h) d u := by
 unfold jT at e
 split at e
 ·rename_i id off
  split at e
  ·rename_i cells hc
   obtain ⟨b, h1, h2, rfl⟩ := hx
   obtain ⟨b', te, vs, g1, g2, g3⟩ := H.obj id _ hc
   rw [h1] at g1; cases g1
   obtain ⟨u, e1, r1⟩ := Q1 g3 e
   exact ⟨u, by simp only [jh, xy, g2]; exact e1, w6 r1⟩
  ·cases e
 ·rename_i id i off tot
  split at e
  case h_2 => cases e
  rename_i rows hro
  split at e
  case h_2 => cases e
  rename_i row hrow
  obtain ⟨q, q1, q2, q3⟩ := jv hro
  obtain ⟨z, hz⟩ := H.width q1 q2
  obtain ⟨k1, k2, k3⟩ := hx
  obtain ⟨k4, k5⟩ := k3 q rows q1 q2
  obtain ⟨k6, k7⟩ := k5 q3
  obtain ⟨b, o, g, rfl⟩ := k7 z hz
  have hR : ∃ te, Rows P (qe W0 γ L h) h b o te rows := by
   have ho := H.obj id q q1
   cases q with
   | li te rs =>
    cases q2
    cases te with
    | none => rw [ho.2] at g; cases g
    | some te => obtain ⟨b', o', g', hR⟩ := ho; rw [g] at g'; cases g'; exact ⟨te, hR⟩
   | fz te rs =>
    cases q2
    cases te with
    | none => rw [ho.2] at g; cases g
    | some te => obtain ⟨b', o', g', _, hR⟩ := ho; rw [g] at g'; cases g'; exact ⟨te, hR⟩
   | st c => exact q2.elim
   | mp => exact q2.elim
   | dead => exact q2.elim
  obtain ⟨te, cs, z', r1, r2, r3, r4, r5, r6, r7⟩ := hR
  have hzz : z' = z := by rw [← hz row (List.mem_of_getElem? hrow), r6 row (List.mem_of_getElem? hrow)]
  subst hzz
  have hil : i < rows.length := (List.getElem?_eq_some_iff.1 hrow).1
  have hmul : (i + 1) * z' ≤ rows.length * z' := Nat.mul_le_mul_right _ hil
  rw [Nat.succ_mul] at hmul
  have hrl := r6 row (List.mem_of_getElem? hrow)
  have h2 := a6m (P := P) (γ := γ) (L := L) (S := qe W0 γ L h) (row := row) (cs := cs) (o := o + i * z') (by omega) (fun j x u e1 e2 => r7 i row j x u hrow e1 e2)
  obtain ⟨u, e1, rr⟩ := Q1 h2 e
  exact ⟨u, by simp only [jh, xy, r1]; exact abz (by omega) e1, w6 rr⟩
 ·rename_i row off
  obtain ⟨b, o, cs, te, rw, h1, h2, rfl, h3, h4⟩ := hx
  obtain ⟨u, e1, rr⟩ := Q1 (a6m h3 h4) e
  exact ⟨u, by simp only [jh, xy, h2]; exact abz h3 e1, w6 rr⟩
 ·cases e
end
open Go.RowKit
theorem ZH : ∀ (vs cs : List Value) (i m : Nat), i + vs.length ≤ cs.length → (qR cs i vs)[m]? = if i ≤ m ∧ m < i + vs.length then vs[m - i]? else cs[m]?
 | [], cs, i, m, _ => by rw [if_neg (by simp only [List.length_nil]; omega)]; rfl
 | v :: r, cs, i, m, hl => by
  rw [qR, ZH r _ _ _ (by simp only [List.length_cons, List.length_set] at hl ⊢; omega)]
  simp only [List.length_cons] at hl ⊢
  by_cases h1 : i + 1 ≤ m ∧ m < i + 1 + r.length
  ·rw [if_pos h1, if_pos (by omega), show m - i = (m - (i + 1)) + 1 by omega, List.getElem?_cons_succ]
  ·rw [if_neg h1]
   by_cases h2 : m = i
   ·subst h2
    rw [if_pos (by omega), Nat.sub_self, List.getElem?_cons_zero, List.getElem?_set_self (by omega)]
   ·rw [if_neg (by omega), List.getElem?_set_ne (Ne.symm h2)]
def jg : List PV → Nat → List PV → List PV
 | cs, _, [] => cs
 | cs, i, v :: r => jg (cs.set i v) (i + 1) r
@[simp] theorem Xg : ∀ (ys cs : List PV) (i : Nat), (jg cs i ys).length = cs.length
  | [], _, _ => rfl
  | v :: r, cs, i => by rw [jg, Xg r]; simp
theorem vM : ∀ (vs cs : List PV) (i m : Nat), i + vs.length ≤ cs.length → (jg cs i vs)[m]? = if i ≤ m ∧ m < i + vs.length then vs[m - i]? else cs[m]?
 | [], cs, i, m, _ => by rw [if_neg (by simp only [List.length_nil]; omega)]; rfl
 | v :: r, cs, i, m, hl => by
  rw [jg, vM r _ _ _ (by simp only [List.length_cons, List.length_set] at hl ⊢; omega)]
  simp only [List.length_cons] at hl ⊢
  by_cases h1 : i + 1 ≤ m ∧ m < i + 1 + r.length
  ·rw [if_pos h1, if_pos (by omega), show m - i = (m - (i + 1)) + 1 by omega, List.getElem?_cons_succ]
  ·rw [if_neg h1]
   by_cases h2 : m = i
   ·subst h2
    rw [if_pos (by omega), Nat.sub_self, List.getElem?_cons_zero, List.getElem?_set_self (by omega)]
   ·rw [if_neg (by omega), List.getElem?_set_ne (Ne.symm h2)]
def pvs : List DV → Option (List PV)
 | [] => some []
 | .p x :: l => (pvs l).map (x :: ·)
 | _ :: _ => none
section
variable {P : Program} {γ : Pl} {L : List Obj} {h : Heap} {h0 : Heap} {W0 : Ent}
theorem QB {S : Nat → Prop} : ∀ {ds : List DV} {vs : List Value} {xs : List PV}, All2 (DC P S γ L h) ds vs → pvs ds = some xs → All2 (PR P S h) xs vs
 | [], _, _, .nil, e => by cases e; exact .nil
 | d :: ds, _, _, .cons hd t, e => by
  unfold pvs at e
  split at e
  ·rename_i heq; cases heq
  ·rename_i x l heq
   cases heq
   cases hq : pvs ds with
   | none => rw [hq] at e; cases e
   | some ys => rw [hq] at e; cases e; exact .cons hd (QB t hq)
  ·cases e
def Jh (P : Program) (L : List Obj) (t : TypeId) (p x : DV) : Option (List Obj) :=
 match p with
 | .ptr id off => match L[id]? with
  | some (.st cells) => if is1 x = true ∧ szT P t = some (zG x).length ∧ off + (zG x).length ≤ cells.length then some (L.set id (.st (j6 cells off (zG x)))) else none
  | _ => none
 | .ep id i off tot => match L[id]? with
  | some (.li te rows) => if rows.length = tot then match rows[i]? with
    | some row => if is1 x = true then match pvs (zG x) with
      | some ps => if szT P t = some ps.length ∧ off + ps.length ≤ row.length then some (L.set id (.li te (rows.set i (jg row off ps)))) else none
      | none => none
     else none
    | none => none
   else none
  | _ => none
 | _ => none
theorem a7Q (H : Hp P h0 W0 γ L h) {id b : Nat} {cells cells' : List DV} {vs vs' : List Value} {te : TypeId} (hi : L[id]? = some (.st cells)) (hg : γ id = some (b, 0)) (hb : h.get b = some (.cells vs te true)) (hr : All2 (DC P (qe W0 γ L h) γ L h) cells' vs') :
  Hp P h0 W0 γ (L.set id (.st cells')) (h.set b (.cells vs' te true)) ∧ Carry W0 γ L h γ (L.set id (.st cells')) (h.set b (.cells vs' te true)) := by
 have hget : ∀ b', b' < h.next → (∀ x, γ id ≠ some (b', x)) → (h.set b (.cells vs' te true)).get b' = h.get b' := fun b' _ hx => Heap.get_set_ne _ _ (by rintro rfl; exact hx 0 hg)
 have c := wM (W0 := W0) (h := h) (γ' := γ) (h' := h.set b (.cells vs' te true)) (o' := .st cells') hi (.inl rfl) (fun _ _ => rfl) (fun c _ => ⟨rfl, _, rfl⟩) (fun rows' hl => hl.elim) (Nat.le_refl _) (fun b x e _ => .inl e) hget
 refine ⟨H.write hi (.inl rfl) c (fun _ _ => rfl) (Nat.le_refl _) (fun b x e => .inl ⟨x, e⟩) (fun x e => H.dom _ _ e) hget ?_, c⟩
 exact ⟨b, te, vs', hg, Heap.get_set_self hb, hr.mono fun _ _ => c.dc⟩
theorem a72 (H : Hp P h0 W0 γ L h) {id b o : Nat} {rows rows' : List (List PV)} {cs cs' : List Value} {te : TypeId} {z : Nat} (hi : L[id]? = some (.li (some te) rows)) (hg : γ id = some (b, o)) (hb : h.get b = some (.cells cs te true))
  (hlen : rows'.length = rows.length) (hw : ∀ r ∈ rows, r.length = z) (hw' : ∀ r ∈ rows', r.length = z) (hz : szT P te = some z) (h0z : 0 < z) (hl : o + rows.length * z ≤ cs'.length) (hm : rows.length ≤ maxLen)
  (hr : ∀ (i : Nat) (r : List PV) (j : Nat) (x : PV) (u : Value), rows'[i]? = some r → r[j]? = some x → cs'[o + i * z + j]? = some u → PR P (qe W0 γ L h) h x u) :
  Hp P h0 W0 γ (L.set id (.li (some te) rows')) (h.set b (.cells cs' te true)) ∧ Carry W0 γ L h γ (L.set id (.li (some te) rows')) (h.set b (.cells cs' te true)) := by
 have hget : ∀ b', b' < h.next → (∀ x, γ id ≠ some (b', x)) → (h.set b (.cells cs' te true)).get b' = h.get b' := fun b' _ hx => Heap.get_set_ne _ _ (by rintro rfl; exact hx o hg)
 have c := wM (W0 := W0) (h := h) (γ' := γ) (h' := h.set b (.cells cs' te true)) (o' := .li (some te) rows') hi (.inl rfl) (fun _ _ => rfl) (fun c e => (by cases e))
  (fun r' hl' => ⟨rows, rfl, by cases hl'; omega, fun _ => ⟨rfl, fun z' hz' r hr' => by
   cases hl'
   rw [hw r hr']
   have hne : 0 < rows.length := List.length_pos_of_mem hr'
   have h1 : rows'[0]'(by omega) ∈ rows' := List.getElem_mem _
   rw [← hz' _ h1, hw' _ h1]⟩⟩) (Nat.le_refl _) (fun b x e _ => .inl e) hget
 refine ⟨H.write hi (.inl rfl) c (fun _ _ => rfl) (Nat.le_refl _) (fun b x e => .inl ⟨x, e⟩) (fun x e => H.dom _ _ e) hget ?_, c⟩
 exact ⟨b, o, hg, cs', z, Heap.get_set_self hb, hz, h0z, by rw [hlen]; exact hl, by rw [hlen]; exact hm, hw', fun i r j x u e1 e2 e3 => c.pr (hr i r j x u e1 e2 e3)⟩
theorem Kz (H : Hp P h0 W0 γ L h) {t : TypeId} {p x : DV} {v u : Value} {L' : List Obj} (hp : (DR P (qe W0 γ L h) γ L h) p v) (hx : (DR P (qe W0 γ L h) γ L h) x u) (e : Jh P L t p x = some L') :
  ∃ h', ya P t h v u = some h' ∧ Hp P h0 W0 γ L' h' ∧ Carry W0 γ L h γ L' h' := by
 unfold Jh at e
 split at e
 ·rename_i id off
  split at e
  case h_2 => cases e
  rename_i cells hc
  split at e
  case isFalse => cases e
  rename_i hcond
  obtain ⟨k1, k2, k3⟩ := hcond
  cases e
  obtain ⟨b, h1, _, rfl⟩ := hp
  obtain ⟨b', te, vs, g1, g2, g3⟩ := H.obj id _ hc
  rw [h1] at g1; cases g1
  obtain ⟨q1, q2⟩ := W8 (yi hx k1)
  have hsz : u.cells.size = (zG x).length := by rw [q1.length]; simp
  refine ⟨_, ?_, a7Q H hc h1 g2 (Qx g3 q1)⟩
  simp only [ya, g2]
  rw [if_pos ⟨by rw [hsz]; exact k2, by rw [hsz, ← g3.length]; exact k3, q2⟩]
 ·rename_i id i off tot
  split at e
  case h_2 => cases e
  rename_i te rows hc
  split at e
  case isFalse => cases e
  rename_i htot
  split at e
  case h_2 => cases e
  rename_i row hrow
  split at e
  case isFalse => cases e
  rename_i k1
  split at e
  case h_2 => cases e
  rename_i ps hps
  split at e
  case isFalse => cases e
  rename_i hcond
  obtain ⟨k2, k3⟩ := hcond
  cases e
  have hil : i < rows.length := (List.getElem?_eq_some_iff.1 hrow).1
  have ho := H.obj id _ hc
  cases te with
  | none => obtain ⟨h1, _⟩ := ho; rw [h1] at hil; simp at hil
  | some te =>
   obtain ⟨b, o, hg, cs, z, r1, r2, r3, r4, r5, r6, r7⟩ := ho
   obtain ⟨m1, m2, m3⟩ := hp
   obtain ⟨m4, m5⟩ := m3 _ rows hc rfl
   obtain ⟨m6, m7⟩ := m5 htot
   obtain ⟨b', o', g', rfl⟩ := m7 z r6
   rw [hg] at g'; cases g'
   obtain ⟨q1, q2⟩ := W8 (yi hx k1)
   have q3 := QB q1 hps
   have hsz : u.cells.size = ps.length := by rw [q3.length]; simp
   have hrl := r6 row (List.mem_of_getElem? hrow)
   have hmul : (i + 1) * z ≤ rows.length * z := Nat.mul_le_mul_right _ hil
   rw [Nat.succ_mul] at hmul
   have hul : u.cells.toList.length = ps.length := by simpa using hsz
   refine ⟨_, ?_, a72 H hc hg r1 (cs' := qR cs (o + i * z + off) u.cells.toList) (rows' := rows.set i (jg row off ps)) (by simp) r6 (fun r hr => ?_) r2 r3 (by simpa using r4) r5 ?_⟩
   ·simp only [ya, r1]
    rw [if_pos ⟨by rw [hsz]; exact k2, by rw [hsz]; omega, q2⟩]
   ·obtain ⟨j, hj⟩ := List.mem_iff_getElem?.1 hr
    rcases getElem?_set' hj with ⟨_, hj⟩ | ⟨_, _, rfl⟩
    ·exact r6 r (List.mem_of_getElem? hj)
    ·simpa using hrl
   ·intro i' r' j x' w e1 e2 e3
    rw [ZH _ _ _ _ (by rw [hul]; omega)] at e3
    rcases getElem?_set' e1 with ⟨hne, e1⟩ | ⟨rfl, _, rfl⟩
    ·have hr'l := r6 r' (List.mem_of_getElem? e1)
     have hj : j < z := by rw [← hr'l]; exact (List.getElem?_eq_some_iff.1 e2).1
     have hi'l : i' < rows.length := (List.getElem?_eq_some_iff.1 e1).1
     rw [if_neg ?_] at e3
     ·exact r7 i' r' j x' w e1 e2 e3
     ·rw [hul]
      rintro ⟨a1, a2⟩
      rcases Nat.lt_or_gt_of_ne hne with hlt | hlt
      ·have : (i' + 1) * z ≤ i * z := Nat.mul_le_mul_right _ hlt
       rw [Nat.succ_mul] at this
       omega
      ·have : (i + 1) * z ≤ i' * z := Nat.mul_le_mul_right _ hlt
       rw [Nat.succ_mul] at this
       omega
    ·have hj : j < row.length := by have := (List.getElem?_eq_some_iff.1 e2).1; simpa using this
     rw [vM _ _ _ _ k3] at e2
     by_cases hin : off ≤ j ∧ j < off + ps.length
     ·rw [if_pos hin] at e2
      rw [if_pos (by rw [hul]; omega)] at e3
      obtain ⟨w', e4, rr⟩ := q3.get e2
      rw [show o + i' * z + j - (o + i' * z + off) = j - off by omega, e4] at e3
      cases e3
      exact rr
     ·rw [if_neg hin] at e2
      rw [if_neg (by rw [hul]; omega)] at e3
      exact r7 i' row j x' w hrow e2 e3
 ·cases e
theorem af1 (H : Hp P h0 W0 γ L h) {cells : List DV} {vs : List Value} (te : TypeId) (hr : All2 (DC P (qe W0 γ L h) γ L h) cells vs) :
  ∃ γ', Hp P h0 W0 γ' (L ++ [.st cells]) (h.push (.cells vs te true)) ∧ Carry W0 γ L h γ' (L ++ [.st cells]) (h.push (.cells vs te true)) ∧ DR P (qe W0 γ' (L ++ [.st cells]) (h.push (.cells vs te true))) γ' (L ++ [.st cells]) (h.push (.cells vs te true)) (.ptr L.length 0) (jn h.next) := by
 have c := KQ (W0 := W0) (h := h) H.dom (.cells vs te true) (.st cells)
 refine ⟨_, H.push ?_, c, h.next, by simp [yr], ⟨cells, by simp⟩, rfl⟩
 exact ⟨h.next, te, vs, by simp [yr], Heap.get_push_self _ _, hr.mono fun _ _ => c.dc⟩
theorem UW (H : Hp P h0 W0 γ L h) {rows : List (List PV)} {cs : List Value} {te : TypeId} {z c : Nat} (hz : szT P te = some z) (h0z : 0 < z) (hl : rows.length * z ≤ cs.length) (hm : rows.length ≤ maxLen) (hw : ∀ r ∈ rows, r.length = z)
  (hr : ∀ (i : Nat) (r : List PV) (j : Nat) (x : PV) (u : Value), rows[i]? = some r → r[j]? = some x → cs[i * z + j]? = some u → PR P (qe W0 γ L h) h x u) (hc : c = unk ∨ (rows.length ≤ c ∧ c ≤ maxLen)) :
  ∃ γ', Hp P h0 W0 γ' (L ++ [.li (some te) rows]) (h.push (.cells cs te true)) ∧ Carry W0 γ L h γ' (L ++ [.li (some te) rows]) (h.push (.cells cs te true)) ∧
   DR P (qe W0 γ' (L ++ [.li (some te) rows]) (h.push (.cells cs te true))) γ' (L ++ [.li (some te) rows]) (h.push (.cells cs te true)) (.ref L.length 0 rows.length rows.length) (qz rows.length c h.next) := by
 have c' := KQ (W0 := W0) (h := h) H.dom (.cells cs te true) (.li (some te) rows)
 have hd1 : dud > maxLen := by decide
 have hd2 : qN > maxLen := by decide
 have hd3 : unk ≠ dud := by decide
 have hd4 : unk ≠ qN := by decide
 refine ⟨_, H.push ?_, c', by simp, rfl, fun o rs e1 e2 => ?_⟩
 ·exact ⟨h.next, 0, by simp [yr], cs, z, Heap.get_push_self _ _, hz, h0z, by omega, hm, hw, fun i r j x u e1 e2 e3 => c'.pr (hr i r j x u e1 e2 (by simpa using e3))⟩
 ·simp at e1
  subst e1
  cases e2
  refine ⟨Nat.le_refl _, fun _ => ⟨by omega, fun z' _ => .inr (.inr ⟨h.next, 0, c, by simp [yr], by simp [qz], ?_, ?_, hc⟩)⟩⟩
  ·rcases hc with rfl | hc
   ·exact hd3
   ·omega
  ·rcases hc with rfl | hc
   ·exact hd4
   ·omega
end
open Go.RowKit
section
variable {P : Program} {γ : Pl} {L : List Obj} {h : Heap} {h0 : Heap} {W0 : Ent}
structure FlatR (P : Program) (S : Nat → Prop) (h : Heap) (z : Nat) (rows : List (List PV)) (cs : List Value) : Prop where
 len : cs.length = rows.length * z
 wide : ∀ r ∈ rows, r.length = z
 get : ∀ (i : Nat) (r : List PV) (j : Nat) (x : PV) (u : Value), rows[i]? = some r → r[j]? = some x → cs[i * z + j]? = some u → PR P S h x u
theorem wb {S : Nat → Prop} (z : Nat) : FlatR P S h z [] [] := ⟨by simp, by simp, fun i r j x u e => by simp at e⟩
theorem FlatR.append {S : Nat → Prop} {z : Nat} {r1 r2 : List (List PV)} {c1 c2 : List Value} (a : FlatR P S h z r1 c1) (b : FlatR P S h z r2 c2) : FlatR P S h z (r1 ++ r2) (c1 ++ c2) := by
 refine ⟨by rw [List.length_append, List.length_append, a.len, b.len, Nat.add_mul], fun r hr => ?_, fun i r j x u e1 e2 e3 => ?_⟩
 ·rcases List.mem_append.1 hr with hr | hr
  ·exact a.wide r hr
  ·exact b.wide r hr
 ·by_cases hi : i < r1.length
  ·rw [List.getElem?_append_left hi] at e1
   have hj : j < z := by rw [← a.wide r (List.mem_of_getElem? e1)]; exact (List.getElem?_eq_some_iff.1 e2).1
   have : (i + 1) * z ≤ r1.length * z := Nat.mul_le_mul_right _ hi
   rw [Nat.succ_mul] at this
   rw [List.getElem?_append_left (by rw [a.len]; omega)] at e3
   exact a.get i r j x u e1 e2 e3
  ·rw [List.getElem?_append_right (by omega)] at e1
   have : r1.length * z ≤ i * z := Nat.mul_le_mul_right _ (by omega)
   rw [List.getElem?_append_right (by rw [a.len]; omega), a.len] at e3
   refine b.get _ r j x u e1 e2 ?_
   rw [Nat.sub_mul, ← e3]
   congr 1
   omega
theorem ahP {S : Nat → Prop} {row : List PV} {vs : List Value} (hr : All2 (PR P S h) row vs) : FlatR P S h row.length [row] vs := by
 refine ⟨by simp [hr.length], by simp, fun i r j x u e1 e2 e3 => ?_⟩
 cases i with
 | succ i => simp at e1
 | zero =>
  simp at e1; subst e1
  obtain ⟨w, e4, rr⟩ := hr.get e2
  rw [Nat.zero_mul, Nat.zero_add] at e3
  rw [e4] at e3; cases e3
  exact rr
theorem WV {S : Nat → Prop} {cs : List Value} {o z lo n : Nat} {rows : List (List PV)} (hl : o + rows.length * z ≤ cs.length) (hw : ∀ r ∈ rows, r.length = z) (hn : lo + n ≤ rows.length)
  (hr : ∀ (i : Nat) (r : List PV) (j : Nat) (x : PV) (u : Value), rows[i]? = some r → r[j]? = some x → cs[o + i * z + j]? = some u → PR P S h x u) :
  FlatR P S h z ((rows.drop lo).take n) ((cs.drop (o + lo * z)).take (n * z)) := by
 have h1 : (lo + n) * z ≤ rows.length * z := Nat.mul_le_mul_right _ hn
 rw [Nat.add_mul] at h1
 refine ⟨by simp; rw [Nat.min_eq_left (by omega), Nat.min_eq_left (by omega)], fun r hr => hw r (List.mem_of_mem_drop (List.mem_of_mem_take hr)), fun i r j x u e1 e2 e3 => ?_⟩
 rw [List.getElem?_take] at e1 e3
 split at e1
 case isFalse => cases e1
 split at e3
 case isFalse => cases e3
 rw [List.getElem?_drop] at e1 e3
 refine hr (lo + i) r j x u e1 e2 ?_
 rw [← e3]
 congr 1
 rw [Nat.add_mul]
 omega
def a4s (P : Program) (L : List Obj) (s : Nat) (t : TypeId) (x : DV) : Option (List (List PV)) :=
 match P.underlying t with
 | some (.slice _) => match x with
  | .p (.sl z rows) => if z = s then some rows else none
  | .p (.v (.slice none 0 0)) => some []
  | .ref id lo n tot => match zT L id tot with
   | some rows => if rows.all (fun r => r.length == s) then some ((rows.drop lo).take n) else none
   | none => none
  | .aref id off n => match L[id]? with
   | some (.st cells) => if s = 1 ∧ off + n ≤ cells.length then (pvs ((cells.drop off).take n)).map fun l => l.map fun x => [x] else none
   | _ => none
  | _ => none
 | some .string => match x with
  | .p (.v (.string b)) => if s = 1 then some (b.data.toList.map fun c => [.v (.int .u8 c.toNat)]) else none
  | _ => none
 | _ => none
theorem Hp.rows (H : Hp P h0 W0 γ L h) {id b o : Nat} {q : Obj} {rows : List (List PV)} (e : L[id]? = some q) (hl : q.isList rows) (hg : γ id = some (b, o)) : ∃ te, Rows P (qe W0 γ L h) h b o te rows := by
 have ho := H.obj id q e
 cases q with
 | li te rs =>
  cases hl
  cases te with
  | none => rw [ho.2] at hg; cases hg
  | some te => obtain ⟨b', o', g', hR⟩ := ho; rw [hg] at g'; cases g'; exact ⟨te, hR⟩
 | fz te rs =>
  cases hl
  cases te with
  | none => rw [ho.2] at hg; cases hg
  | some te => obtain ⟨b', o', g', _, hR⟩ := ho; rw [hg] at g'; cases g'; exact ⟨te, hR⟩
 | st c => exact hl.elim
 | mp c => exact hl.elim
 | dead => exact hl.elim
theorem uF {S : Nat → Prop} {z : Nat} {rows : List (List PV)} {cs : List Value} (hf : FlatR P S h z rows cs) : cs.all Value.oneCell' = true := by
 rw [List.all_eq_true]
 intro u hu
 obtain ⟨k, hk, rfl⟩ := List.mem_iff_getElem.1 hu
 have hz : 0 < z := by
  rcases Nat.eq_zero_or_pos z with q | q
  ·rw [hf.len, q] at hk; simp at hk
  ·exact q
 have hi : k / z < rows.length := by rw [Nat.div_lt_iff_lt_mul hz, ← hf.len]; exact hk
 have hrw := hf.wide _ (List.getElem_mem hi)
 have hj : k % z < rows[k / z].length := by rw [hrw]; exact Nat.mod_lt _ hz
 refine PR.one (hf.get (k / z) rows[k / z] (k % z) _ _ (List.getElem?_eq_getElem hi) (List.getElem?_eq_getElem hj) ?_)
 rw [show k / z * z + k % z = k by rw [Nat.mul_comm]; exact Nat.div_add_mod k z]
 exact List.getElem?_eq_getElem hk
theorem KZ {S : Nat → Prop} {xs : List PV} {vs : List Value} (hr : All2 (PR P S h) xs vs) : FlatR P S h 1 (xs.map fun x => [x]) vs := by
 induction hr with
 | nil => exact wb 1
 | cons hx t ih => exact (ahP (.cons hx .nil)).append ih
theorem yx (H : Hp P h0 W0 γ L h) {s : Nat} {t : TypeId} {x : DV} {v : Value} {rows : List (List PV)} (hx : (DR P (qe W0 γ L h) γ L h) x v) (e : a4s P L s t x = some rows) :
  ∃ cs, a0w P s t h v = some (rows.length, cs) ∧ FlatR P (qe W0 γ L h) h s rows cs := by
 unfold a4s at e
 unfold a0w
 split at e
 ·rename_i te hu
  simp only [hu]
  split at e
  ·rename_i z rs
   split at e
   case isFalse => cases e
   rename_i hz
   subst hz
   cases e
   cases (show PR P (qe W0 γ L h) h _ v from hx) with
   | nil => exact ⟨[], rfl, wb z⟩
   | dud => exact ⟨[], rfl, wb z⟩
   | zero => exact ⟨[], rfl, wb z⟩
   | sl hS hb hz0 hl hz hr hc hm =>
    rename_i b o c cs te rw
    have hf := WV (P := P) (h := h) (S := qe W0 γ L h) (cs := cs) (o := o) (z := z) (lo := 0) (n := rows.length) hl (fun r hr => by obtain ⟨i, hi⟩ := List.mem_iff_getElem?.1 hr; exact hz i r hi) (by omega) hr
    simp only [List.drop_zero, List.take_length, Nat.zero_mul, Nat.add_zero] at hf
    by_cases h0r : rows.length = 0
    ·have : rows = [] := List.length_eq_zero_iff.1 h0r
     subst this
     exact ⟨[], rfl, wb z⟩
    ·simp only [if_neg h0r, hb]
     rw [if_pos ⟨hl, uF hf⟩]
     exact ⟨_, rfl, hf⟩
  ·cases e
   have : v = .slice none 0 0 := PR.scal (P := P) (S := qe W0 γ L h) (h := h) hx
   subst this
   exact ⟨[], rfl, wb s⟩
  ·rename_i id lo n tot
   split at e
   case h_2 => cases e
   rename_i rs hro
   split at e
   case isFalse => cases e
   rename_i hall
   cases e
   obtain ⟨q, q1, q2, q3⟩ := jv hro
   have hall' : ∀ r ∈ rs, r.length = s := fun r hr => by have := List.all_eq_true.1 hall r hr; simpa using this
   obtain ⟨k1, k2, k3⟩ := hx
   obtain ⟨k4, k5⟩ := k3 q rs q1 q2
   obtain ⟨k6, k7⟩ := k5 q3
   have hlen : ((rs.drop lo).take n).length = n := by simp; omega
   rw [hlen]
   rcases k7 s hall' with ⟨rfl | ⟨b, o, rfl⟩, h1, h2⟩ | ⟨b, o, c, rfl, h1, h2⟩ | ⟨b, o, c, g, rfl, h1⟩
   ·have : n = 0 := by omega
    subst this
    exact ⟨[], rfl, by simpa using wb s⟩
   ·have : n = 0 := by omega
    subst this
    exact ⟨[], rfl, by simpa using wb s⟩
   ·subst h1
    exact ⟨[], rfl, by simpa using wb s⟩
   ·by_cases hn : n = 0
    ·subst hn
     exact ⟨[], rfl, by simpa using wb s⟩
    ·obtain ⟨te, cs, z, r1, r2, r3, r4, r5, r6, r7⟩ := H.rows q1 q2 g
     have hne : 0 < rs.length := by omega
     have hzs : z = s := by rw [← r6 _ (List.getElem_mem hne), hall' _ (List.getElem_mem hne)]
     subst hzs
     have hf := WV (P := P) (h := h) (S := qe W0 γ L h) r4 r6 (lo := lo) (n := n) (by omega) r7
     simp only [if_neg hn, r1]
     have hm : (lo + n) * z ≤ rs.length * z := Nat.mul_le_mul_right _ (by omega)
     rw [Nat.add_mul] at hm
     rw [if_pos ⟨by omega, uF hf⟩]
     exact ⟨_, rfl, hf⟩
  ·rename_i id off n
   split at e
   case h_2 => cases e
   rename_i cells hc
   split at e
   case isFalse => cases e
   rename_i hcond
   obtain ⟨rfl, hle⟩ := hcond
   cases hp : pvs ((cells.drop off).take n) with
   | none => rw [hp] at e; cases e
   | some xs =>
    rw [hp] at e; cases e
    obtain ⟨b, h1, _, rfl⟩ := hx
    obtain ⟨b', te, vs, g1, g2, g3⟩ := H.obj id _ hc
    rw [h1] at g1; cases g1
    have hr := QB ((g3.drop off).take n) hp
    have hlen : xs.length = n := by rw [hr.length, ← ((g3.drop off).take n).length]; simp; omega
    have hf := KZ hr
    rw [List.length_map, hlen]
    by_cases hn : n = 0
    ·subst hn
     have : xs = [] := List.length_eq_zero_iff.1 hlen
     subst this
     exact ⟨[], rfl, wb 1⟩
    ·simp only [if_neg hn, g2, Nat.mul_one]
     rw [if_pos ⟨by rw [← g3.length]; exact hle, uF hf⟩]
     exact ⟨_, rfl, hf⟩
  ·cases e
 ·rename_i hu
  simp only [hu]
  split at e
  ·rename_i bs
   split at e
   case isFalse => cases e
   rename_i hs
   subst hs
   cases e
   have : v = .string bs := PR.scal (P := P) (S := qe W0 γ L h) (h := h) hx
   subst this
   simp only [if_true]
   refine ⟨jQ bs, ?_, ?_⟩
   ·rw [List.length_map]; rfl
   ·have key : ∀ l : List UInt8, All2 (PR P (qe W0 γ L h) h) (l.map fun c => PV.v (.int .u8 c.toNat)) (l.map fun c => Value.int .u8 c.toNat) := by
     intro l
     induction l with
     | nil => exact .nil
     | cons c l ih => exact .cons (PR.v rfl) ih
    have := KZ (key bs.data.toList)
    rw [List.map_map] at this
    exact this
  ·cases e
 ·cases e
end
open Go.RowKit
def K3 (γ : Pl) (id b : Nat) : Pl := fun i => if i = id then some (b, 0) else γ i
section
variable {P : Program} {γ : Pl} {L : List Obj} {h : Heap} {h0 : Heap} {W0 : Ent}
theorem FlatR.mono {S S' : Nat → Prop} {h h' : Heap} {z : Nat} {rows : List (List PV)} {cs : List Value} (hf : FlatR P S h z rows cs) (hs : ∀ b, S b → S' b ∧ h'.get b = h.get b) : FlatR P S' h' z rows cs :=
 ⟨hf.len, hf.wide, fun i r j x u e1 e2 e3 => (hf.get i r j x u e1 e2 e3).mono hs⟩
theorem a4M (H : Hp P h0 W0 γ L h) {id : Nat} {te0 : Option TypeId} {te : TypeId} {rows rows' : List (List PV)} {cs : List Value} {z : Nat} {hk : Heap} (hi : L[id]? = some (.li te0 rows)) (hlt : rows.length < rows'.length)
  (hz : szT P te = some z) (h0z : 0 < z) (hm : rows'.length ≤ maxLen) (hf : FlatR P (qe W0 γ L h) h z rows' cs) (hk1 : hk.next = h.next) (hk2 : ∀ b, (∀ x, γ id ≠ some (b, x)) → hk.get b = h.get b) (hte : te0 = none → γ id = none) :
  Hp P h0 W0 (K3 γ id h.next) (L.set id (.li (some te) rows')) (hk.push (.cells cs te true)) ∧ Carry W0 γ L h (K3 γ id h.next) (L.set id (.li (some te) rows')) (hk.push (.cells cs te true)) ∧
   DR P (qe W0 (K3 γ id h.next) (L.set id (.li (some te) rows')) (hk.push (.cells cs te true))) (K3 γ id h.next) (L.set id (.li (some te) rows')) (hk.push (.cells cs te true)) (.ref id 0 rows'.length rows'.length) (qz rows'.length unk hk.next) := by
 have hid : id < L.length := (List.getElem?_eq_some_iff.1 hi).1
 have hγ : ∀ j, j ≠ id → K3 γ id h.next j = γ j := fun j hj => if_neg hj
 have hget : ∀ b', b' < h.next → (∀ x, γ id ≠ some (b', x)) → (hk.push (.cells cs te true)).get b' = h.get b' := fun b' hb hx => by
  rw [Heap.get_push_ne _ _ (by omega)]; exact hk2 b' hx
 have hd : (Obj.li te0 rows).owns = true ∨ γ id = none := by
  cases te0 with
  | none => exact .inr (hte rfl)
  | some _ => exact .inl rfl
 have hn : h.next ≤ (hk.push (.cells cs te true)).next := by simp; omega
 have c := wM (W0 := W0) (h := h) (γ' := K3 γ id h.next) (h' := hk.push (.cells cs te true)) (o' := .li (some te) rows') hi hd hγ (fun c e => (by cases e)) (fun r' hl' => ⟨rows, rfl, by cases hl'; omega, fun e => by cases hl'; omega⟩) hn
  (fun b x e _ => .inr (by simp [K3] at e; omega)) hget
 have hdu : unk ≠ dud := by decide
 have hdn : unk ≠ qN := by decide
 refine ⟨H.write hi hd c hγ hn (fun b x e => .inr (by simp [K3] at e; omega)) (fun _ _ => hid) hget ?_, c, by simpa using hid, rfl, fun o rs e1 e2 => ?_⟩
 ·refine ⟨h.next, 0, by simp [K3], cs, z, by rw [← hk1]; exact Heap.get_push_self _ _, hz, h0z, by rw [hf.len]; omega, hm, hf.wide, fun i r j x u e1 e2 e3 => c.pr (hf.get i r j x u e1 e2 (by simpa using e3))⟩
 ·simp [List.getElem?_set, hid] at e1
  subst e1
  cases e2
  exact ⟨Nat.le_refl _, fun _ => ⟨by omega, fun z' _ => .inr (.inr ⟨h.next, 0, unk, by simp [K3], by simp [qz, hk1], hdu, hdn, .inl rfl⟩)⟩⟩
theorem a9r (H : Hp P h0 W0 γ L h) : Hp P h0 W0 γ (L ++ [.li none []]) h ∧ Carry W0 γ L h γ (L ++ [.li none []]) h ∧ DR P (qe W0 γ (L ++ [.li none []]) h) γ (L ++ [.li none []]) h (.ref L.length 0 0 0) (.slice none 0 0) := by
 have hno : γ L.length = none := by
  cases hq : γ L.length with
  | none => rfl
  | some x => have := H.dom _ _ hq; omega
 refine ⟨H.virtual rfl ⟨rfl, hno⟩, ZY _ rfl, by simp, rfl, fun o rs e1 e2 => ?_⟩
 simp at e1
 subst e1
 cases e2
 exact ⟨Nat.le_refl _, fun _ => ⟨by omega, fun z _ => .inl ⟨.inl rfl, rfl, hno⟩⟩⟩
def Ka (P : Program) (ts : List TypeId) (L : List Obj) (s x : DV) : Option (DV × List Obj) :=
 match ts with
 | [t, t2] => match P.underlying t with
  | some (.slice e) => match P.info? e, za P e with
   | some i, some _ => match a4s P L i.size t2 x with
    | some ys => match s with
     | .p (.v (.slice none 0 0)) => if 0 < i.size ∧ ys.length ≤ maxLen ∧ ys.length * i.bytes ≤ 140737488355328 then some (.ref L.length 0 ys.length ys.length, L ++ [.li (if ys.length = 0 then none else some e) ys]) else none
     | .ref id lo n tot => match L[id]? with
      | some (.li te rows) => if lo = 0 ∧ rows.length = tot ∧ n = tot ∧ (te = none ∨ te = some e) ∧ 0 < i.size ∧ n + ys.length ≤ maxLen ∧ (n + ys.length) * i.bytes ≤ 140737488355328 then
        some (.ref id 0 (n + ys.length) (n + ys.length), L.set id (.li (if ys.length = 0 then te else some e) (rows ++ ys))) else none
      | _ => none
     | _ => none
    | none => none
   | _, _ => none
  | _ => none
 | _ => none
theorem Yo (H : Hp P h0 W0 γ L h) {ts : List TypeId} {s x d : DV} {v w : Value} {L' : List Obj} (hs : (DR P (qe W0 γ L h) γ L h) s v) (hx : (DR P (qe W0 γ L h) γ L h) x w) (e : Ka P ts L s x = some (d, L')) :
  ∃ v' h' γ', jf P ts h v w = some (v', h') ∧ Hp P h0 W0 γ' L' h' ∧ Carry W0 γ L h γ' L' h' ∧ DR P (qe W0 γ' L' h') γ' L' h' d v' := by
 unfold Ka at e
 split at e
 case h_2 => cases e
 rename_i t t2
 split at e
 case h_2 => cases e
 rename_i te hu
 split at e
 case h_2 => cases e
 rename_i i zz hi hzz
 split at e
 case h_2 => cases e
 rename_i ys hys
 obtain ⟨cs, hsrc, hf⟩ := yx H hx hys
 have hsz : szT P te = some i.size := by unfold szT; rw [hi]; rfl
 unfold jf
 simp only [hu, hi, hzz, hsrc]
 split at e
 ·-- nil
  split at e
  case isFalse => cases e
  rename_i hc
  obtain ⟨c1, c2, c3⟩ := hc
  cases e
  have : v = .slice none 0 0 := PR.scal (P := P) (S := qe W0 γ L h) (h := h) hs
  subst this
  by_cases h0y : ys.length = 0
  ·have : ys = [] := List.length_eq_zero_iff.1 h0y
   subst this
   simp only [List.length_nil, if_true]
   obtain ⟨a1, a2, a3⟩ := a9r H
   exact ⟨_, _, γ, rfl, a1, a2, a3⟩
  ·simp only [if_neg h0y]
   rw [if_pos ⟨c2, c3⟩]
   obtain ⟨γ', a1, a2, a3⟩ := UW H (te := te) (c := unk) hsz c1 (by rw [hf.len]; exact Nat.le_refl _) c2 hf.wide hf.get (.inl rfl)
   exact ⟨_, _, γ', rfl, a1, a2, a3⟩
 ·rename_i id lo n tot
  split at e
  case h_2 => cases e
  rename_i te0 rows hli
  split at e
  case isFalse => cases e
  rename_i hc
  obtain ⟨rfl, c1, c2, c3, c4, c5, c6⟩ := hc
  cases e
  subst c1
  subst c2
  by_cases h0y : ys.length = 0
  ·have : ys = [] := List.length_eq_zero_iff.1 h0y
   subst this
   have hL : L.set id (.li te0 (rows ++ [])) = L := by
    rw [List.append_nil]
    refine List.ext_getElem? fun j => ?_
    by_cases hj : j = id
    ·subst hj
     rw [List.getElem?_set_self (List.getElem?_eq_some_iff.1 hli).1, hli]
    ·rw [List.getElem?_set_ne (Ne.symm hj)]
   simp only [List.length_nil, if_true, Nat.add_zero]
   rw [hL]
   have hv : ∃ a n c, v = .slice a n c ∧ (a = none → n = 0 ∧ c = 0) ∧ (∀ q, a = some q → q.spot = none) := by
    obtain ⟨k1, k2, k3⟩ := hs
    obtain ⟨k4, k5⟩ := k3 _ rows hli rfl
    obtain ⟨k6, k7⟩ := k5 rfl
    obtain ⟨z, hz⟩ := H.width hli rfl
    rcases k7 z hz with ⟨rfl | ⟨b, o, rfl⟩, _⟩ | ⟨b, o, c, rfl, _⟩ | ⟨b, o, c, _, rfl, _⟩
    ·exact ⟨_, _, _, rfl, fun _ => ⟨rfl, rfl⟩, fun q e => (by cases e)⟩
    ·exact ⟨_, _, _, rfl, fun e => (by cases e), fun q e => (by cases e; rfl)⟩
    ·exact ⟨_, _, _, rfl, fun e => (by cases e), fun q e => (by cases e; rfl)⟩
    ·exact ⟨_, _, _, rfl, fun e => (by cases e), fun q e => (by cases e; rfl)⟩
   obtain ⟨a, m, c, rfl, ha, hq⟩ := hv
   cases a with
   | none => obtain ⟨rfl, rfl⟩ := ha rfl; exact ⟨_, _, γ, rfl, H, Carry.refl _ _ _, hs⟩
   | some q =>
    obtain ⟨qb, qo, qv⟩ := q
    have := hq _ rfl
    simp only at this
    subst this
    exact ⟨_, _, γ, rfl, H, Carry.refl _ _ _, hs⟩
  ·obtain ⟨k1, k2, k3⟩ := hs
   obtain ⟨k4, k5⟩ := k3 _ rows hli rfl
   obtain ⟨k6, k7⟩ := k5 rfl
   obtain ⟨z0, hz0⟩ := H.width hli rfl
   have ho := H.obj id _ hli
   have hlen : (rows ++ ys).length = rows.length + ys.length := List.length_append
   simp only [if_neg h0y]
   cases te0 with
   | none =>
    obtain ⟨rfl, hγn⟩ := ho
    rcases k7 z0 hz0 with ⟨rfl | ⟨b, o, rfl⟩, _⟩ | ⟨b, o, c, rfl, _, h2⟩ | ⟨b, o, c, g, _⟩
    ·simp only
     simp only [List.length_nil, Nat.zero_add] at c5 c6
     rw [if_pos ⟨c5, c6⟩]
     obtain ⟨a1, a2, a3⟩ := a4M H (rows' := [] ++ ys) (hk := h) hli (by simp; omega) hsz c4 (by simpa using c5) (by simpa using hf) rfl (fun _ _ => rfl) (fun _ => hγn)
     simp only [List.nil_append, List.length_nil, Nat.zero_add] at a1 a2 a3 ⊢
     exact ⟨_, _, _, rfl, a1, a2, a3⟩
    ·simp only
     simp only [List.length_nil, Nat.zero_add] at c5 c6
     rw [if_neg (by rintro (q | q) <;> (simp [dud, qN] at q)), if_pos (by simpa using ⟨c5, c6⟩), if_pos ⟨trivial, trivial⟩]
     obtain ⟨a1, a2, a3⟩ := a4M H (rows' := [] ++ ys) (hk := h) hli (by simp; omega) hsz c4 (by simpa using c5) (by simpa using hf) rfl (fun _ _ => rfl) (fun _ => hγn)
     simp only [List.nil_append, List.length_nil, Nat.zero_add] at a1 a2 a3 ⊢
     exact ⟨_, _, _, rfl, a1, a2, a3⟩
    ·simp at h2
    ·rw [hγn] at g; cases g
   | some te' =>
    have hte : te' = te := by rcases c3 with c3 | c3 <;> cases c3; rfl
    subst hte
    obtain ⟨b', o', g', cs0, z, r1, r2, r3, r4, r5, r6, r7⟩ := ho
    have hzi : z = i.size := by rw [hsz] at r2; cases r2; rfl
    subst hzi
    rcases k7 _ r6 with ⟨_, _, h2⟩ | ⟨b, o, c, rfl, h1, h2⟩ | ⟨b, o, c, g, rfl, d1, d2, d3⟩
    ·rw [h2] at g'; cases g'
    ·omega
    ·rw [g'] at g; cases g
     simp only [Nat.zero_mul, Nat.add_zero]
     rw [if_neg (by rintro (q | q) <;> contradiction), if_pos ⟨c5, c6⟩]
     have hf0 := WV (P := P) (h := h) (S := qe W0 γ L h) r4 r6 (lo := 0) (n := rows.length) (by omega) r7
     simp only [List.drop_zero, List.take_length, Nat.zero_mul, Nat.add_zero] at hf0
     have hff := hf0.append hf
     have key : ∀ hk : Heap, hk.next = h.next → (∀ b, (∀ x, γ id ≠ some (b, x)) → hk.get b = h.get b) → ∃ v' h'' γ', some (qz (rows.length + ys.length) unk hk.next, hk.push (.cells ((cs0.drop o').take (rows.length * i.size) ++ cs) te' true)) = some (v', h'') ∧
       Hp P h0 W0 γ' (L.set id (.li (some te') (rows ++ ys))) h'' ∧ Carry W0 γ L h γ' (L.set id (.li (some te') (rows ++ ys))) h'' ∧ DR P (qe W0 γ' (L.set id (.li (some te') (rows ++ ys))) h'') γ' (L.set id (.li (some te') (rows ++ ys))) h'' (.ref id 0 (rows.length + ys.length) (rows.length + ys.length)) v' := by
      intro hk hk1 hk2
      obtain ⟨a1, a2, a3⟩ := a4M H (rows' := rows ++ ys) (hk := hk) hli (by rw [hlen]; omega) hsz c4 (by rw [hlen]; exact c5) hff hk1 hk2 (fun e => by cases e)
      rw [hlen] at a3
      exact ⟨_, _, _, rfl, a1, a2, a3⟩
     have e1 : h.next = h.next := rfl
     by_cases h00 : rows.length = 0 ∧ c = 0
     ·rw [if_pos h00]
      have hk := key h rfl fun _ _ => rfl
      have h0' : (cs0.drop o').take (rows.length * i.size) = [] := by rw [h00.1, Nat.zero_mul, List.take_zero]
      rw [h0', List.nil_append] at hk
      exact hk
     rw [if_neg h00]
     simp only [r1]
     rw [if_pos ⟨r4, .inr ⟨r2, trivial⟩⟩]
     split
     ·exact key h rfl fun _ _ => rfl
     ·have := key (h.kill b') rfl fun b hb => Heap.get_kill_ne h (by rintro rfl; exact hb o' g')
      exact this
 ·cases e
end
open Go.RowKit
theorem QE {n c : Nat} {lo hi mx : Option Value} {l r : Nat} {om : Option Nat} (hc : n ≤ c) (e : qK n n lo hi mx = some (l, r, om)) : qK n c lo hi mx = some (l, r, om) ∧ l ≤ r ∧ r ≤ n ∧ (∀ m, om = some m → r ≤ m ∧ m ≤ n) := by
 unfold qK at e ⊢
 split at e
 ·split at e
  ·rename_i m vh h1 
   split at e
   ·split at e
    ·rename_i h2
     rename_i hh _ 
     split at e
     ·split at e
      ·split at e
       ·rename_i vl l' h3 h4
        cases e
        rw [if_pos ⟨by omega, h2.2⟩]
        simp only [h3, if_pos h4]
        exact ⟨trivial, h4, by omega, fun m' e' => by cases e'; omega⟩
       ·cases e
      ·cases e
     ·cases e
      rw [if_pos ⟨by omega, h2.2⟩]
      exact ⟨rfl, by omega, by omega, fun m' e' => by cases e'; omega⟩
    ·cases e
   ·cases e
  ·cases e
 ·split at e
  ·split at e
   ·split at e
    ·rename_i h2
     split at e
     ·split at e
      ·split at e
       ·rename_i vl l' h3 h4
        cases e
        rw [if_pos (by omega)]
        simp only [h3, if_pos h4]
        exact ⟨trivial, h4, by omega, fun m' e' => by cases e'⟩
       ·cases e
      ·cases e
     ·cases e
      rw [if_pos (by omega)]
      exact ⟨rfl, by omega, by omega, fun m' e' => by cases e'⟩
    ·cases e
   ·cases e
  ·split at e
   ·split at e
    ·split at e
     ·rename_i vl l' h3 h4
      cases e
      simp only [h3, if_pos h4]
      exact ⟨trivial, by omega, Nat.le_refl _, fun m' e' => by cases e'⟩
     ·cases e
    ·cases e
   ·cases e
    exact ⟨rfl, by omega, Nat.le_refl _, fun m' e' => by cases e'⟩
section
variable {P : Program} {γ : Pl} {L : List Obj} {h : Heap} {h0 : Heap} {W0 : Ent}
def y9 : Obj → Option TypeId
 | .li e _ => e
 | .fz e _ => e
 | _ => none
def wA (P : Program) (L : List Obj) (t : TypeId) (x : DV) (lo hi mx : Option Value) : Option DV :=
 match P.underlying t with
 | some .string => match x with
  | .p (.v (.string s)) => scD (zo P (fun _ => none) t (.string s) lo hi mx)
  | _ => none
 | some (.slice e) => match szT P e with
  | some s => match x with
   | .p (.sl z rows) => if z = s then match qK rows.length rows.length lo hi mx with
     | some (l, r, none) => some (.p (.sl z ((rows.drop l).take (r - l))))
     | _ => none
    else none
   | .p (.v (.slice none 0 0)) => match qK 0 0 lo hi mx with
    | some _ => some (.p (.v (.slice none 0 0)))
    | none => none
   | .ref id a n tot => match zT L id tot with
    | some _ => if (L[id]?.bind y9).bind (szT P) = some s ∧ 0 < n then match qK n n lo hi mx with
      | some (l, r, _) => some (.ref id (a + l) (r - l) tot)
      | none => none
     else none
    | none => none
   | .aref id off n => match qK n n lo hi mx with
    | some (l, r, none) => if l < n then some (.aref id (off + l * s) (r - l)) else none
    | _ => none
   | _ => none
  | none => none
 | some (.array n e) => match szT P e with
  | some s => match x with
   | .ptr id off => match qK n n lo hi mx with
    | some (l, r, none) => if l < n ∧ n ≤ maxLen then some (.aref id (off + l * s) (r - l)) else none
    | _ => none
   | _ => none
  | none => none
 | _ => none
theorem Qw (H : Hp P h0 W0 γ L h) {t : TypeId} {x d : DV} {v : Value} {lo hi mx : Option Value} (hx : (DR P (qe W0 γ L h) γ L h) x v) (e : wA P L t x lo hi mx = some d) : ∃ u, zo P (zd P h) t v lo hi mx = some u ∧ (DR P (qe W0 γ L h) γ L h) d u := by
 have hdu : dud > maxLen := by decide
 have hun : unk > maxLen := by decide
 have hno : qN > maxLen := by decide
 have hnu : qN ≠ unk := by decide
 have hud : unk ≠ dud := by decide
 have hnd : qN ≠ dud := by decide
 unfold wA at e
 split at e
 ·rename_i hu
  split at e
  case h_2 => cases e
  rename_i s
  have : v = .string s := PR.scal (P := P) (S := qe W0 γ L h) (h := h) hx
  subst this
  obtain ⟨u, e1, r1⟩ := wj (P := P) (S := qe W0 γ L h) (γ := γ) (L := L) (h := h) e
  refine ⟨u, ?_, r1⟩
  rw [← e1]
  unfold zo
  simp only [hu]
 ·rename_i te hu
  split at e
  case h_2 => cases e
  rename_i s hs
  unfold zo
  simp only [hu]
  split at e
  ·rename_i z rows
   split at e
   case isFalse => cases e
   rename_i hz
   subst hz
   split at e
   case h_2 => cases e
   rename_i l r hb
   cases e
   obtain ⟨_, hlr, hr, _⟩ := QE (Nat.le_refl _) hb
   cases (show PR P (qe W0 γ L h) h _ v from hx) with
   | nil =>
    simp only [hs]
    rw [show ([] : List (List PV)).length = 0 from rfl] at hb
    simp only [hb]
    refine ⟨_, rfl, ?_⟩
    rw [List.drop_nil, List.take_nil]
    exact PR.nil
   | dud =>
    simp only [hs]
    rw [show qX 0 dud = 0 from by decide]
    rw [show ([] : List (List PV)).length = 0 from rfl] at hb
    simp only [hb, if_true]
    refine ⟨_, rfl, ?_⟩
    rw [List.drop_nil, List.take_nil]
    exact PR.dud
   | zero =>
    rename_i b o
    simp only [hs]
    rw [show qX 0 0 = 0 from by decide]
    rw [show ([] : List (List PV)).length = 0 from rfl] at hb
    simp only [hb]
    have hl0 : l = 0 := by have := hlr; have := hr; simp at this; omega
    have hr0 : r = 0 := by have := hr; simp at this; omega
    subst hl0 hr0
    rw [if_neg (by decide), if_neg (by simp)]
    refine ⟨_, rfl, ?_⟩
    rw [List.drop_nil, List.take_nil]
    exact PR.zero
   | sl hS hg h0z hl hw hrr hc hm =>
    rename_i b o c cs te' rw'
    have hcap : rows.length ≤ qX rows.length c := by
     unfold qX
     rcases hc with rfl | ⟨_, _, rfl | ⟨h1, h2⟩⟩
     ·rw [if_neg hnu, if_pos rfl]; exact Nat.le_refl _
     ·rw [if_pos rfl]; exact Nat.le_refl _
     ·rw [if_neg (by omega), if_neg (by omega), if_neg (by omega)]; exact h1
    have hbd := (QE hcap hb).1
    simp only [hs, hbd]
    rw [if_neg hc.nodud]
    have hE : ¬ (c ≠ qN ∧ ¬ (rows.length = 0 ∧ c = 0) ∧ zd P h b ≠ some z) := by
     rintro ⟨h1, _, h2⟩
     rcases hc with rfl | ⟨rfl, h3, _⟩
     ·exact h1 rfl
     ·exact h2 (by unfold zd; rw [hg]; exact h3)
    rw [if_neg hE]
    have hlen : ((rows.drop l).take (r - l)).length = r - l := by simp; omega
    have hmul : r * z ≤ rows.length * z := Nat.mul_le_mul_right _ hr
    have hsub : (r - l) * z = r * z - l * z := Nat.sub_mul _ _ _
    have hlz : l * z ≤ r * z := Nat.mul_le_mul_right _ hlr
    have key : ∀ c', CapOk P c' (r - l) rw' te' z → PR P (qe W0 γ L h) h (.sl z ((rows.drop l).take (r - l))) (.slice (some ⟨b, o + l * z, none⟩) (r - l) c') := by
     intro c' hc'
     have := PR.sl (P := P) (S := qe W0 γ L h) (h := h) (rows := (rows.drop l).take (r - l)) (b := b) (o := o + l * z) (c := c') (z := z) hS hg h0z (by rw [hlen, hsub]; omega)
      (fun i q e1 => by
       rw [List.getElem?_take] at e1
       split at e1
       ·rw [List.getElem?_drop] at e1; exact hw _ q e1
       ·cases e1)
      (fun i q j x u e1 e2 e3 => by
       rw [List.getElem?_take] at e1
       split at e1
       ·rw [List.getElem?_drop] at e1
        exact hrr (l + i) q j x u e1 e2 (by rw [← e3]; congr 1; rw [Nat.add_mul]; omega)
       ·cases e1) (by rw [hlen]; exact hc') (by rw [hlen]; omega)
     rw [hlen] at this
     exact this
    by_cases hcu : c = unk ∨ c = qN
    ·rw [if_pos hcu]
     by_cases hlt : l < rows.length
     ·rw [if_pos hlt]
      refine ⟨_, rfl, key c ?_⟩
      rcases hc with rfl | ⟨h1, h2, rfl | h3⟩
      ·exact .inl rfl
      ·exact .inr ⟨h1, h2, .inl rfl⟩
      ·rcases hcu with rfl | rfl
       ·omega
       ·omega
     ·rw [if_neg hlt]
      have : (rows.drop l).take (r - l) = [] := by rw [show r - l = 0 by omega]; simp
      rw [this]
      exact ⟨_, rfl, PR.dud⟩
    ·rw [if_neg hcu]
     rcases hc with rfl | ⟨h1, h2, rfl | ⟨h3, h4⟩⟩
     ·exact absurd (.inr rfl) hcu
     ·exact absurd (.inl rfl) hcu
     by_cases hcl : c = l
     ·rw [if_pos hcl]
      have : r - l = 0 := by omega
      rw [this]
      simp only [List.take_zero]
      refine ⟨_, rfl, ?_⟩
      exact PR.sl (rows := []) (z := z) (c := 0) hS hg h0z (by simp; omega) (by simp) (by simp) (.inr ⟨h1, h2, .inr ⟨Nat.le_refl _, Nat.zero_le _⟩⟩) (Nat.zero_le _)
     ·rw [if_neg hcl]
      exact ⟨_, rfl, key (c - l) (.inr ⟨h1, h2, .inr ⟨by omega, by omega⟩⟩)⟩
  ·split at e
   case h_2 => cases e
   rename_i q hb
   cases e
   have : v = .slice none 0 0 := PR.scal (P := P) (S := qe W0 γ L h) (h := h) hx
   subst this
   simp only [hs, hb]
   exact ⟨_, rfl, PR.v rfl⟩
  ·rename_i id a n tot
   split at e
   case h_2 => cases e
   rename_i rows hro
   split at e
   case isFalse => cases e
   rename_i hcond
   obtain ⟨hsz, hn0⟩ := hcond
   split at e
   case h_2 => cases e
   rename_i l r om hb
   cases e
   obtain ⟨q, q1, q2, q3⟩ := jv hro
   obtain ⟨z, hz⟩ := H.width q1 q2
   obtain ⟨k1, k2, k3⟩ := hx
   obtain ⟨k4, k5⟩ := k3 q rows q1 q2
   obtain ⟨k6, k7⟩ := k5 q3
   rcases k7 z hz with ⟨_, h1, h2⟩ | ⟨b, o, c, rfl, h1, h2⟩ | ⟨b, o, c, g, rfl, d1, d2, d3⟩
   ·omega
   ·omega
   obtain ⟨te', cs, z', r1, r2, r3, r4, r5, r6, r7⟩ := H.rows q1 q2 g
   have hne : 0 < rows.length := by omega
   have hzz : z' = z := by rw [← r6 _ (List.getElem_mem hne), hz _ (List.getElem_mem hne)]
   subst hzz
   have hte : y9 q = some te' := by
    have ho := H.obj id q q1
    cases q with
    | li tq rs =>
     cases tq with
     | none => rw [ho.2] at g; cases g
     | some tq =>
      obtain ⟨b', o', g', cs', zz, s1, s2, _⟩ := ho
      rw [g] at g'; cases g'
      rw [r1] at s1; cases s1; rfl
    | fz tq rs =>
     cases tq with
     | none => rw [ho.2] at g; cases g
     | some tq =>
      obtain ⟨b', o', g', _, cs', zz, s1, s2, _⟩ := ho
      rw [g] at g'; cases g'
      rw [r1] at s1; cases s1; rfl
    | st => exact q2.elim
    | mp => exact q2.elim
    | dead => exact q2.elim
   have hsz' : z' = s := by
    rw [q1] at hsz
    simp only [Option.bind_some, hte, r2, Option.some.injEq] at hsz
    exact hsz
   subst hsz'
   have hcap : n ≤ qX n c := by
    unfold qX
    rcases d3 with rfl | ⟨h1, h2⟩
    ·rw [if_pos rfl]; exact Nat.le_refl _
    ·rw [if_neg (by omega), if_neg (by omega), if_neg (by omega)]; exact h1
   have hcap2 : c ≠ unk → qX n c = c := fun hc => by
    unfold qX
    rcases d3 with rfl | ⟨h1, h2⟩
    ·exact absurd rfl hc
    ·rw [if_neg hc, if_neg d2, if_neg d1]
   obtain ⟨hbd, hlr, hr, hom⟩ := QE hcap hb
   simp only [hs, hbd]
   rw [if_neg d1]
   have hE : ¬ (c ≠ qN ∧ ¬ (n = 0 ∧ c = 0) ∧ zd P h b ≠ some z') := by
    rintro ⟨_, _, h2⟩
    exact h2 (by unfold zd; rw [r1]; exact r2)
   rw [if_neg hE]
   have fin : ∀ u, ((∃ b' o' c', u = .slice (some ⟨b', o', none⟩) 0 c' ∧ r - l = 0) ∨ (∃ c', u = .slice (some ⟨b, o + a * z' + l * z', none⟩) (r - l) c' ∧ c' ≠ dud ∧ c' ≠ qN ∧ (c' = unk ∨ (r - l ≤ c' ∧ c' ≤ maxLen)))) → (DR P (qe W0 γ L h) γ L h) (.ref id (a + l) (r - l) tot) u := by
    intro u hu
    refine ⟨k1, ?_, fun q' rows' e1 e2 => ?_⟩
    ·rcases hu with ⟨_, _, _, rfl, _⟩ | ⟨_, rfl, _⟩ <;> rfl
    ·obtain ⟨m4, m5⟩ := k3 q' rows' e1 e2
     refine ⟨m4, fun e3 => ⟨by omega, fun z2 hz2 => ?_⟩⟩
     have hro' : rows' = rows := by
      rw [q1] at e1; cases e1
      cases q <;> first | (cases q2; cases e2; rfl) | exact q2.elim
     subst hro'
     have hz3 : z2 = z' := by rw [← r6 _ (List.getElem_mem hne), hz2 _ (List.getElem_mem hne)]
     subst hz3
     rcases hu with ⟨b', o', c', rfl, h2⟩ | ⟨c', rfl, f1, f2, f3⟩
     ·exact .inr (.inl ⟨b', o', c', rfl, h2, by omega⟩)
     ·refine .inr (.inr ⟨b, o, c', g, by rw [Nat.add_mul, Nat.add_assoc], f1, f2, f3⟩)
   have e0 : o + a * z' = o + a * z' := rfl
   cases om with
   | some m =>
    obtain ⟨m1, m2⟩ := hom m rfl
    simp only
    by_cases hml : m = l
    ·rw [if_pos hml]
     have : r - l = 0 := by omega
     exact ⟨_, rfl, fin _ (.inl ⟨b, o + a * z', 0, by rw [this], this⟩)⟩
    ·rw [if_neg hml, if_neg (fun q => d2 q.1), if_neg d2]
     have : m - l ≤ maxLen := by omega
     exact ⟨_, rfl, fin _ (.inr ⟨m - l, rfl, by omega, by omega, .inr ⟨by omega, this⟩⟩)⟩
   | none =>
    simp only
    by_cases hcu : c = unk
    ·rw [if_pos (.inl hcu)]
     by_cases hlt : l < n
     ·rw [if_pos hlt]
      exact ⟨_, rfl, fin _ (.inr ⟨c, rfl, d1, d2, .inl hcu⟩)⟩
     ·rw [if_neg hlt]
      have : r - l = 0 := by omega
      exact ⟨_, rfl, fin _ (.inl ⟨b, o + a * z', dud, rfl, this⟩)⟩
    ·rw [if_neg (by rintro (q | q) <;> contradiction)]
     have hd := d3.resolve_left hcu
     by_cases hcl : c = l
     ·rw [if_pos hcl]
      have : r - l = 0 := by omega
      exact ⟨_, rfl, fin _ (.inl ⟨b, o + a * z', 0, by rw [this], this⟩)⟩
     ·rw [if_neg hcl]
      exact ⟨_, rfl, fin _ (.inr ⟨c - l, rfl, by omega, by omega, .inr ⟨by omega, by omega⟩⟩)⟩
  ·rename_i id off n
   split at e
   case h_2 => cases e
   rename_i l r hb
   split at e
   case isFalse => cases e
   rename_i hl
   cases e
   obtain ⟨b, h1, h2, rfl⟩ := hx
   have hcap : qX n qN = n := by unfold qX; rw [if_neg hnu, if_pos rfl]
   simp only [hs, hcap, hb]
   rw [if_neg hnd, if_neg (by rintro ⟨q, _⟩; exact q rfl), if_pos (by simp), if_pos hl]
   exact ⟨_, rfl, b, h1, h2, rfl⟩
  ·cases e
 ·rename_i n te hu
  split at e
  case h_2 => cases e
  rename_i s hs
  split at e
  case h_2 => cases e
  rename_i id off
  split at e
  case h_2 => cases e
  rename_i l r hb
  split at e
  case isFalse => cases e
  rename_i hl
  cases e
  obtain ⟨b, h1, h2, rfl⟩ := hx
  unfold zo
  simp only [hu, hs, hb, Option.getD_none]
  rw [if_pos hl.2, if_neg (by omega)]
  exact ⟨_, rfl, b, h1, h2, rfl⟩
 ·cases e
def Ue (P : Program) (L : List Obj) (t : TypeId) (x : DV) : Option DV :=
 match P.underlying t with
 | some (.slice _) => match x with
  | .p (.sl _ rows) => some (.p (.v (goInt rows.length)))
  | .p (.v (.slice none 0 0)) => some (.p (.v (goInt (0 : Nat))))
  | .ref id _ n tot => match zT L id tot with
   | some _ => some (.p (.v (goInt n)))
   | none => none
  | .aref _ _ n => some (.p (.v (goInt n)))
  | _ => none
 | some .string => match x with
  | .p (.v (.string s)) => some (.p (.v (goInt s.size)))
  | _ => none
 | some (.array n _) => match x with
  | .agg _ => some (.p (.v (goInt n)))
  | _ => none
 | _ => none
theorem U8 (H : Hp P h0 W0 γ L h) {t : TypeId} {x d : DV} {v : Value} (hx : (DR P (qe W0 γ L h) γ L h) x v) (e : Ue P L t x = some d) : ∃ u, Xa P t h v = some u ∧ (DR P (qe W0 γ L h) γ L h) d u := by
 unfold Ue at e
 unfold Xa
 split at e
 ·rename_i te hu
  simp only [hu]
  unfold a9D
  simp only [hu]
  split at e
  ·cases e
   cases (show PR P (qe W0 γ L h) h _ v from hx) with
   | nil => exact ⟨_, rfl, PR.v rfl⟩
   | dud => exact ⟨_, rfl, PR.v rfl⟩
   | zero => exact ⟨_, rfl, PR.v rfl⟩
   | sl => exact ⟨_, rfl, PR.v rfl⟩
  ·cases e
   have : v = .slice none 0 0 := PR.scal (P := P) (S := qe W0 γ L h) (h := h) hx
   subst this
   exact ⟨_, rfl, PR.v rfl⟩
  ·rename_i id a n tot
   split at e
   case h_2 => cases e
   rename_i rows hro
   cases e
   obtain ⟨q, q1, q2, q3⟩ := jv hro
   obtain ⟨z, hz⟩ := H.width q1 q2
   obtain ⟨k1, k2, k3⟩ := hx
   obtain ⟨k4, k5⟩ := k3 q rows q1 q2
   obtain ⟨k6, k7⟩ := k5 q3
   rcases k7 z hz with ⟨rfl | ⟨b, o, rfl⟩, h1, h2⟩ | ⟨b, o, c, rfl, h1, h2⟩ | ⟨b, o, c, g, rfl, d1⟩
   ·have : n = 0 := by omega
    subst this
    exact ⟨_, rfl, PR.v rfl⟩
   ·have : n = 0 := by omega
    subst this
    exact ⟨_, rfl, PR.v rfl⟩
   ·subst h1
    exact ⟨_, rfl, PR.v rfl⟩
   ·exact ⟨_, rfl, PR.v rfl⟩
  ·cases e
   obtain ⟨b, _, _, rfl⟩ := hx
   exact ⟨_, rfl, PR.v rfl⟩
  ·cases e
 ·rename_i hu
  simp only [hu]
  split at e
  ·cases e
   rename_i s
   have : v = .string s := PR.scal (P := P) (S := qe W0 γ L h) (h := h) hx
   subst this
   exact ⟨_, by simp only [a9D, hu], PR.v rfl⟩
  ·cases e
 ·rename_i n te hu
  simp only [hu]
  split at e
  ·cases e
   obtain ⟨vs, rfl, _⟩ := hx
   exact ⟨_, by simp only [a9D, hu], PR.v rfl⟩
  ·cases e
 ·cases e
end
open Go.RowKit
section
variable {P : Program} {γ : Pl} {L : List Obj} {h : Heap} {h0 : Heap} {W0 : Ent}
def xA : List (List PV) → Option (List Int)
 | [] => some []
 | [.v (.int .u8 n)] :: r => (xA r).map (n :: ·)
 | _ :: _ => none
theorem a2e {S : Nat → Prop} : ∀ {rows : List (List PV)} {cs : List Value} {xs : List Int}, FlatR P S h 1 rows cs → xA rows = some xs → Qi cs = some xs
 | [], cs, xs, hf, e => by
  cases e
  have : cs = [] := List.length_eq_zero_iff.1 (by rw [hf.len]; rfl)
  subst this; rfl
 | row :: rows, cs, xs, hf, e => by
  unfold xA at e
  split at e
  ·rename_i heq; cases heq
  ·rename_i n r heq
   cases heq
   cases hq : xA rows with
   | none => rw [hq] at e; cases e
   | some ys =>
    rw [hq] at e; cases e
    cases cs with
    | nil => have := hf.len; simp at this
    | cons c cs =>
     have h1 : c = .int .u8 n := PR.scal (P := P) (S := S) (h := h) (hf.get 0 _ 0 _ c rfl rfl rfl)
     subst h1
     have hf' : FlatR P S h 1 rows cs := ⟨by have := hf.len; simp at this; omega, fun r hr => hf.wide r (List.mem_cons_of_mem _ hr), fun i r j x u e1 e2 e3 => hf.get (i + 1) r j x u (by simpa using e1) e2 (by rw [show (i + 1) * 1 + j = (i * 1 + j) + 1 by omega, List.getElem?_cons_succ]; exact e3)⟩
     unfold Qi
     rw [a2e hf' hq]
     rfl
  ·cases e
theorem aeo {t te : TypeId} {v : Value} {n : Nat} {cs : List Value} {xs : List Int} (hu : P.underlying t = some (.slice te)) (e : a0w P 1 t h v = some (n, cs)) (hn : Qi cs = some xs) : jL h v = some (.string (strOfNums xs)) := by
 unfold a0w at e
 simp only [hu] at e
 unfold jL
 split at e
 ·rename_i q; cases q
 ·cases e; cases hn; rfl
 ·rename_i b o m c _
  simp only
  split at e
  ·rename_i h0; cases e; cases hn; rw [if_pos h0]
  ·rename_i h0
   rw [if_neg h0]
   split at e
   ·rename_i cs' _ _ hg
    split at e
    ·rename_i hc
     cases e
     simp only [hg]
     rw [if_pos (by have := hc.1; omega)]
     rw [Nat.mul_one] at hn
     rw [hn]
     rfl
    ·cases e
   ·cases e
 ·cases e
def Qz (P : Program) (e : TypeId) : Bool := match P.underlying e with
 | some (.int .u8) => true
 | _ => false
theorem JJ {e : TypeId} (h : Qz P e = true) : P.underlying e = some (.int .u8) := by
 unfold Qz at h
 split at h
 ·assumption
 ·cases h
def VR (P : Program) (L : List Obj) (s d : TypeId) (x : DV) : Option (DV × List Obj) :=
 match P.underlying s, P.underlying d with
 | some (.slice e), some .string => if Qz P e = true then match (a4s P L 1 s x).bind xA with
   | some xs => some (.p (.v (.string (strOfNums xs))), L)
   | none => none
  else none
 | some .string, some (.slice e) => match x with
  | .p (.v (.string t)) => if Qz P e = true ∧ szT P e = some 1 ∧ t.size ≤ maxLen then
    some (.ref L.length 0 t.size t.size, L ++ [.li (some e) (t.data.toList.map fun c => [.v (.int .u8 c.toNat)])]) else none
  | _ => none
 | some (.slice _), some (.slice e) => match x with
  | .ref id lo n tot => if s = d ∧ Qz P e = true ∧ 0 < n ∧ 0 < tot then match L[id]? with
    | some (.li (some _) rows) => if rows.length = tot then some (.ref id lo n tot, L) else none
    | _ => none
   else none
  | _ => none
 | _, _ => match yc x with
  | some v => (scD (xK P s d v)).map fun d => (d, L)
  | none => none
def Aft (P : Program) (h0 : Heap) (W0 : Ent) (γ : Pl) (L : List Obj) (h : Heap) (K : DV → List Obj → Prop) (v : Value) (h' : Heap) : Prop :=
 ∃ γ' d L', K d L' ∧ Hp P h0 W0 γ' L' h' ∧ Carry W0 γ L h γ' L' h' ∧ DR P (qe W0 γ' L' h') γ' L' h' d v
theorem zi {K : DV → List Obj → Prop} {d : DV} {v : Value} (H : Hp P h0 W0 γ L h) (hK : K d L) (hd : (DR P (qe W0 γ L h) γ L h) d v) : Aft P h0 W0 γ L h K v h := ⟨γ, d, L, hK, H, Carry.refl _ _ _, hd⟩
theorem a5r (H : Hp P h0 W0 γ L h) {s t : TypeId} {x d : DV} {v : Value} {L' : List Obj} {K : DV → List Obj → Prop} (hx : (DR P (qe W0 γ L h) γ L h) x v) (e : VR P L s t x = some (d, L')) (hK : K d L') : wo P s t v h (Aft P h0 W0 γ L h K) := by
 unfold VR at e
 unfold wo
 split at e
 ·rename_i te h1 h2
  simp only [h1, h2]
  split at e
  case isFalse => cases e
  rename_i h3
  refine ⟨JJ h3, ?_⟩
  cases hs : a4s P L 1 s x with
  | none => rw [hs] at e; cases e
  | some rows =>
   rw [hs] at e
   simp only [Option.bind_some] at e
   cases hn : xA rows with
   | none => rw [hn] at e; cases e
   | some xs =>
    rw [hn] at e; cases e
    obtain ⟨cs, e1, hf⟩ := yx H hx hs
    rw [aeo h1 e1 (a2e hf hn)]
    exact zi H hK (PR.v rfl)
 ·rename_i te h1 h2
  split at e
  case h_2 => cases e
  rename_i b
  split at e
  case isFalse => cases e
  rename_i h3
  cases e
  have : v = .string b := PR.scal (P := P) (S := qe W0 γ L h) (h := h) hx
  subst this
  simp only [h1, h2]
  obtain ⟨k1, k2, k3⟩ := h3
  have key : ∀ l : List UInt8, All2 (PR P (qe W0 γ L h) h) (l.map fun c => PV.v (.int .u8 c.toNat)) (l.map fun c => Value.int .u8 c.toNat) := by
   intro l
   induction l with
   | nil => exact .nil
   | cons c l ih => exact .cons (PR.v rfl) ih
  have hf : FlatR P (qe W0 γ L h) h 1 (b.data.toList.map fun c => [PV.v (.int .u8 c.toNat)]) (jQ b) := by
   have := KZ (key b.data.toList)
   rw [List.map_map] at this
   exact this
  have hlen : (b.data.toList.map fun c => [PV.v (.int .u8 (c.toNat : Int))]).length = b.size := by rw [List.length_map]; rfl
  obtain ⟨γ', a1, a2, a3⟩ := UW H (te := te) (c := unk) k2 (Nat.zero_lt_one) (by rw [hf.len]; exact Nat.le_refl _) (by rw [hlen]; exact k3) hf.wide hf.get (.inl rfl)
  rw [hlen] at a3
  exact ⟨JJ k1, k2, k3, γ', _, _, hK, a1, a2, a3⟩
 ·rename_i te0 te1 h1 h2
  split at e
  case h_2 => cases e
  rename_i id lo n tot
  split at e
  case isFalse => cases e
  rename_i h3
  obtain ⟨rfl, k1, k2, k4⟩ := h3
  have hte : te0 = te1 := by rw [h1] at h2; cases h2; rfl
  subst hte
  split at e
  case h_2 => cases e
  rename_i te rows hid
  split at e
  case isFalse => cases e
  rename_i hlen
  cases e
  obtain ⟨b, o, hg, hrows⟩ := H.obj id _ hid
  obtain ⟨cs, z, r1, r2, r3, r4, r5, r6, r7⟩ := hrows
  have hx' := hx
  obtain ⟨_, _, q3⟩ := hx'
  obtain ⟨_, q5⟩ := q3 _ rows hid rfl
  obtain ⟨_, q7⟩ := q5 hlen
  rcases q7 z r6 with ⟨_, h4, _⟩ | ⟨_, _, _, _, h4, _⟩ | ⟨b', o', c, g, rfl, d1, d2, d3⟩
  ·omega
  ·omega
  ·rw [hg] at g; cases g
   simp only [h1, h2, r1]
   exact ⟨trivial, ⟨d1, fun q => by omega⟩, JJ k1, zi H hK hx⟩
 ·rename_i n1 n2 n3
  cases hv : yc x with
  | none => rw [hv] at e; cases e
  | some u =>
   have := jA hx hv; subst this
   rw [hv] at e
   cases hc : scD (xK P s t v) with
   | none => simp only [hc] at e; cases e
   | some d' =>
    simp only [hc, Option.map_some, Option.some.injEq, Prod.mk.injEq] at e
    obtain ⟨rfl, rfl⟩ := e
    obtain ⟨u, e1, r1⟩ := wj (P := P) (S := qe W0 γ L h) (γ := γ) (L := L) (h := h) hc
    split
    ·rename_i h1 h2; exact absurd h2 (n1 _ h1)
    ·rename_i h1 h2; exact absurd h2 (n2 _ h1)
    ·rename_i h1 h2; exact absurd h2 (n3 _ _ h1)
    ·simp only [e1]
     exact zi H hK r1
theorem agV {S : Nat → Prop} {z i : Nat} {rows : List (List PV)} {cs ws : List Value} {ps : List PV} (hf : FlatR P S h z rows cs) (hi : i < rows.length) (hl : ps.length = z) (hp : All2 (PR P S h) ps ws) : FlatR P S h z (rows.set i ps) (qR cs (i * z) ws) := by
 have hmul : (i + 1) * z ≤ rows.length * z := Nat.mul_le_mul_right _ hi
 rw [Nat.succ_mul] at hmul
 have hwl : ws.length = z := by rw [← hp.length]; exact hl
 refine ⟨by simp [hf.len], fun r hr => ?_, fun i' r' j x' w e1 e2 e3 => ?_⟩
 ·obtain ⟨j, hj⟩ := List.mem_iff_getElem?.1 hr
  rcases getElem?_set' hj with ⟨_, hj⟩ | ⟨_, _, rfl⟩
  ·exact hf.wide r (List.mem_of_getElem? hj)
  ·exact hl
 ·rw [ZH _ _ _ _ (by rw [hwl, hf.len]; omega)] at e3
  rcases getElem?_set' e1 with ⟨hne, e1⟩ | ⟨rfl, _, rfl⟩
  ·have hj : j < z := by rw [← hf.wide r' (List.mem_of_getElem? e1)]; exact (List.getElem?_eq_some_iff.1 e2).1
   rw [if_neg ?_] at e3
   ·exact hf.get i' r' j x' w e1 e2 e3
   ·rw [hwl]
    rintro ⟨a1, a2⟩
    rcases Nat.lt_or_gt_of_ne hne with hlt | hlt
    ·have : (i' + 1) * z ≤ i * z := Nat.mul_le_mul_right _ hlt
     rw [Nat.succ_mul] at this
     omega
    ·have : (i + 1) * z ≤ i' * z := Nat.mul_le_mul_right _ hlt
     rw [Nat.succ_mul] at this
     omega
  ·have hj : j < z := by rw [← hl]; exact (List.getElem?_eq_some_iff.1 e2).1
   rw [if_pos (by rw [hwl]; omega)] at e3
   obtain ⟨w', e4, rr⟩ := hp.get e2
   rw [show i' * z + j - i' * z = j by omega, e4] at e3
   cases e3
   exact rr
def wZ (z : Nat) (rows : List (List PV)) : List (Nat × DV) → Option (List (List PV))
 | [] => some rows
 | (i, d) :: r => if is1 d = true ∧ i < rows.length then match pvs (zG d) with
   | some ps => if ps.length = z then wZ z (rows.set i ps) r else none
   | none => none
  else none
theorem JI {z : Nat} : ∀ {ps : List (Nat × DV)} {qs : List (Nat × Value)} {rows xs : List (List PV)} {cs : List Value}, FlatR P (qe W0 γ L h) h z rows cs → All2 (fun d v => d.1 = v.1 ∧ (DR P (qe W0 γ L h) γ L h) d.2 v.2) ps qs → wZ z rows ps = some xs →
  ∃ ws, Z1 (fun i => some (i * z, z)) cs qs = some ws ∧ FlatR P (qe W0 γ L h) h z xs ws ∧ xs.length = rows.length
 | [], _, rows, xs, cs, hf, .nil, e => by cases e; exact ⟨cs, rfl, hf, rfl⟩
 | (i, d) :: ps, _, rows, xs, cs, hf, .cons (b := (j, v)) hd t, e => by
  obtain ⟨rfl, hd⟩ := hd
  unfold wZ at e
  unfold Z1
  split at e
  case isFalse => cases e
  rename_i hc
  split at e
  case h_2 => cases e
  rename_i qs hq
  split at e
  case isFalse => cases e
  rename_i hz
  obtain ⟨q1, q2⟩ := W8 (yi hd hc.1)
  have q3 := QB q1 hq
  have hsz : v.cells.size = z := by rw [← hz, q3.length]; simp
  have hmul : (i + 1) * z ≤ rows.length * z := Nat.mul_le_mul_right _ hc.2
  rw [Nat.succ_mul] at hmul
  simp only
  rw [if_pos ⟨hsz, by rw [hf.len]; exact hmul⟩]
  obtain ⟨ws, e1, e2, e3⟩ := JI (agV hf hc.2 hz q3) t e
  exact ⟨ws, e1, e2, by rw [e3]; simp⟩
theorem UO {S : Nat → Prop} {zs : List Value} {zr : List PV} (hr : All2 (PR P S h) zr zs) (n : Nat) : FlatR P S h zs.length (List.replicate n zr) (wu zs n) := by
 refine ⟨by rw [J2]; simp, fun r hr' => by rw [List.eq_of_mem_replicate hr', hr.length], fun i r j x u e1 e2 e3 => ?_⟩
 rw [List.getElem?_replicate] at e1
 split at e1
 case isFalse => cases e1
 rename_i hi
 cases e1
 have hj : j < zs.length := by rw [← hr.length]; exact (List.getElem?_eq_some_iff.1 e2).1
 have hmul : (i + 1) * zs.length ≤ n * zs.length := Nat.mul_le_mul_right _ hi
 rw [Nat.succ_mul] at hmul
 rw [Vq _ _ _ (by omega)] at e3
 obtain ⟨w, e4, rr⟩ := hr.get e2
 have hmod : (i * zs.length + j) % zs.length = j := by rw [Nat.mul_comm, Nat.mul_add_mod]; exact Nat.mod_eq_of_lt hj
 rw [hmod, e4] at e3
 cases e3
 exact rr
def wg (P : Program) (L : List Obj) (t : TypeId) (len : Nat) (ps : List (Nat × DV)) : Option (DV × List Obj) :=
 match P.underlying t with
 | some (.slice e) => match (Yj P e).bind pvs, szT P e with
  | some zr, some s => if zr.length = s ∧ len * s ≤ 16777216 ∧ 0 < s ∧ len ≤ maxLen then match wZ s (List.replicate len zr) ps with
    | some rows => some (.ref L.length 0 len len, L ++ [.li (some e) rows])
    | none => none
   else none
  | _, _ => none
 | _ => none
theorem Zz (H : Hp P h0 W0 γ L h) {t : TypeId} {len : Nat} {ps : List (Nat × DV)} {qs : List (Nat × Value)} {d : DV} {L' : List Obj} {K : DV → List Obj → Prop} (hr : All2 (fun d v => d.1 = v.1 ∧ (DR P (qe W0 γ L h) γ L h) d.2 v.2) ps qs) (e : wg P L t len ps = some (d, L')) (hK : K d L') :
  ∃ q mk, jt P t len qs = some (q, mk) ∧ Aft P h0 W0 γ L h K (mk h.next) (h.push q) := by
 unfold wg at e
 unfold jt
 split at e
 case h_2 => cases e
 rename_i te hu
 simp only [hu]
 split at e
 case h_2 => cases e
 rename_i zr s hz hs
 split at e
 case isFalse => cases e
 rename_i hc
 obtain ⟨c0, c1, c2, c3⟩ := hc
 split at e
 case h_2 => cases e
 rename_i rows hrows
 cases e
 cases hzd : Yj P te with
 | none => rw [hzd] at hz; cases hz
 | some zs =>
  rw [hzd] at hz
  simp only [Option.bind_some] at hz
  obtain ⟨z, e1, r1⟩ := ZE (P := P) (γ := γ) (L := L) (h := h) (S := qe W0 γ L h) hzd
  have r2 := QB r1 hz
  have hzl : z.length = s := by rw [← r2.length]; exact c0
  simp only [e1, hs]
  rw [if_pos ⟨c1, c2, c3⟩]
  have hf := UO r2 len
  rw [hzl] at hf
  obtain ⟨ws, f1, f2, f3⟩ := JI hf hr hrows
  rw [WS, f1]
  simp only [Option.map_some]
  have hlen : rows.length = len := by rw [f3]; simp
  obtain ⟨γ', a1, a2, a3⟩ := UW H (te := te) (c := len) (rows := rows) (cs := ws) hs c2 (by rw [f2.len]; exact Nat.le_refl _) (by rw [hlen]; exact c3) f2.wide f2.get (.inr ⟨by omega, c3⟩)
  rw [hlen] at a3
  exact ⟨_, _, rfl, γ', _, _, hK, a1, a2, a3⟩
end
open Go.RowKit
def qn {α : Type} (o : Option α) (f : α → Prop) : Prop := match o with
 | some d => f d
 | none => False
theorem qI {α : Type} (d : α) (f : α → Prop) : qn (some d) f = f d := rfl
theorem qk {α : Type} {o : Option α} {f : α → Prop} (h : qn o f) : ∃ d, o = some d ∧ f d := by
 cases o with
 | none => exact h.elim
 | some d => exact ⟨d, rfl, h⟩
def Xc (ρ : Y2) : Option Operand → Option (Option Value)
 | none => some none
 | some x => match ρ x with
  | some d => (yc d).map some
  | none => none
def Jp : DV → Bool
 | .p _ => true
 | .ptr _ _ => true
 | .ep _ _ _ _ => true
 | .dp _ _ => true
 | .ref _ _ _ _ => true
 | .aref _ _ _ => true
 | _ => false
def ud (P : Program) (f : FuncId) (ds : List DV) (L : List Obj) (K : DV → List Obj → Prop) : Prop :=
 ∀ h0 W0 γ h vs, Hp P h0 W0 γ L h → All2 (DR P (qe W0 γ L h) γ L h) ds vs → ADoes P f vs h (Aft P h0 W0 γ L h K)
def JS (c : Option DV) (a b : Option DV) : Option DV := match c with
 | some (.p (.v (.bool t))) => if t then a else b
 | _ => none
def Vx (f : Fn) (a b : Option (List DV)) : Option DV := match f, a, b with
 | .func k, some a, some b => if a.all Jp && b.all Jp then some (.fn k a b) else none
 | _, _, _ => none
def WT (P : Program) (t : TypeId) (x i : DV) : Option DV :=
 match P.underlying t, x, ahJ i with
 | some (.array len e), .agg cs, some n => match szT P e with
  | some s => if 0 ≤ n ∧ n.toNat < len then Qg P e cs (n.toNat * s) else none
  | none => none
 | some .string, .p (.v (.string s)), some n => if 0 ≤ n then scD ((s[n.toNat]?).map fun b => .int .u8 b.toNat) else none
 | _, _, _ => none
def QN (x : DV) (i : Nat) : Option DV := match x with
 | .tup xs => xs[i]?
 | _ => none
def ac6 (L : List Obj) (x : DV) : Option DV := onD L 0 x
def yJ : List DV → Option (List Value)
 | [] => some []
 | d :: l => match yc d, yJ l with
  | some v, some vs => some (v :: vs)
  | _, _ => none
def zO (P : Program) (o : Op) (ρ : Y2) (L : List Obj) (K : DV → List Obj → Prop) : Prop :=
 match o with
 | .move x => qn (ρ x) fun d => K d L
 | .assign x => qn (ρ x) fun d => K d L
 | .pick c a b => qn (JS (ρ c) (ρ a) (ρ b)) fun d => K d L
 | .build t ps => qn (Kk ρ ps.toList) fun ds => qn (Wu P t ds) fun d => K d L
 | .field t x f => qn (ρ x) fun x => qn (WY P t x f) fun d => K d L
 | .fieldAddr t x f => qn (ρ x) fun x => qn (Q5 P L t x f) fun d => K d L
 | .unOp op _ x => qn (ρ x) fun x => qn (yc x) fun v => qn (scD (unV op v)) fun d => K d L
 | .binOp op t x y _ => qn (ρ x) fun x => qn (ρ y) fun y => qn (ym P op t x y) fun d => K d L
 | .convert s d x => qn (ρ x) fun x => qn (VR P L s d x) fun (d, L') => K d L'
 | .makeFunc f a b => qn (Vx f (Qp ρ a.toList) (Qp ρ b.toList)) fun d => K d L
 | .indexAddr t x i => qn (ρ x) fun x => qn (ρ i) fun i => qn (wR P L t x i) fun d => K d L
 | .index t x i => qn (ρ x) fun x => qn (ρ i) fun i => qn (WT P t x i) fun d => K d L
 | .extract x i => qn (ρ x) fun x => qn (QN x i) fun d => K d L
 | .nilCheck x => qn (ρ x) fun x => qn (ac6 L x) fun d => K d L
 | .load t x => qn (ρ x) fun x => qn (jT P L t x) fun d => K d L
 | .store t x y => qn (ρ x) fun x => qn (ρ y) fun y => qn (Jh P L t x y) fun L' => K acm L'
 | .slice t x lo hi mx => qn (ρ x) fun x => qn (Xc ρ lo) fun lo => qn (Xc ρ hi) fun hi => qn (Xc ρ mx) fun mx => qn (wA P L t x lo hi mx) fun d => K d L
 | .box t x => qn (ρ x) fun x => is1 x = true ∧ szT P t = some (zG x).length ∧ K (.ptr L.length 0) (L ++ [.st (zG x)])
 | .alloc t => qn (Yj P t) fun z => K (.ptr L.length 0) (L ++ [.st z])
 | .buildSlice t n ps => qn (Kk ρ ps.toList) fun ds => qn (wg P L t n ds) fun (d, L') => K d L'
 | .call { callee := .value f, args := args, argTypes := _ } => qn (ρ f) fun f => qn (Qp ρ args.toList) fun ds => match f with
  | .fn k pre cap => ud P k (pre ++ ds ++ cap) L K
  | _ => False
 | .call { callee := .builtin .append, args := args, argTypes := ts } => qn (Qp ρ args.toList) fun ds => match ds with
  | [s, x] => qn (Ka P ts.toList L s x) fun (d, L') => K d L'
  | _ => False
 | .call { callee := .builtin .len, args := args, argTypes := ts } => qn (Qp ρ args.toList) fun ds => match ds, ts.toList with
  | [x], [t] => qn (Ue P L t x) fun d => K d L
  | _, _ => False
 | .call { callee := .builtin .min, args := args, argTypes := _ } => qn (Qp ρ args.toList) fun ds => qn (yJ ds) fun vs => qn (scD (aao vs)) fun d => K d L
 | .call { callee := .builtin .max, args := args, argTypes := _ } => qn (Qp ρ args.toList) fun ds => qn (yJ ds) fun vs => qn (scD (a8Q vs)) fun d => K d L
 | _ => False
section
variable {P : Program} {γ : Pl} {L : List Obj} {h : Heap} {h0 : Heap} {W0 : Ent} {ρ : Y2} {r : Rho} {K : DV → List Obj → Prop}
theorem KB (hρ : xb P W0 γ L h ρ r) {x : Option Operand} {v : Option Value} (e : Xc ρ x = some v) : jV r x = some v := by
 cases x with
 | none => cases e; rfl
 | some x =>
  unfold Xc at e
  cases hx : ρ x with
  | none => simp only [hx] at e; cases e
  | some d =>
   simp only [hx] at e
   cases hv : yc d with
   | none => rw [hv] at e; cases e
   | some u =>
    rw [hv] at e; cases e
    obtain ⟨w, e1, r1⟩ := hρ x d hx
    have := jA r1 hv
    subst this
    simp [jV, e1]
theorem aiD {S : Nat → Prop} {d : DV} {v : Value} (hb : Jp d = true) (hd : DR P S γ L h d v) : DB P S γ L h d v := by
 cases d <;> first | exact hd | (simp [Jp] at hb)
theorem VF {S : Nat → Prop} : ∀ {ds : List DV} {vs : List Value}, ds.all Jp = true → All2 (DR P S γ L h) ds vs → All2 (DB P S γ L h) ds vs
 | [], _, _, .nil => .nil
 | d :: ds, _, hb, .cons hd t => by
  simp only [List.all_cons, Bool.and_eq_true] at hb
  exact .cons (aiD hb.1 hd) (VF hb.2 t)
theorem Jc : ∀ {ds : List DV} {vs xs : List Value}, All2 (DR P (qe W0 γ L h) γ L h) ds vs → yJ ds = some xs → vs = xs
 | [], _, _, .nil, e => by cases e; rfl
 | d :: ds, _, xs, .cons hd t, e => by
  unfold yJ at e
  cases h1 : yc d with
  | none => rw [h1] at e; cases e
  | some v =>
   cases h2 : yJ ds with
   | none => rw [h1, h2] at e; cases e
   | some vs =>
    rw [h1, h2] at e; cases e
    rw [jA hd h1, Jc t h2]
theorem adB (H : Hp P h0 W0 γ L h) (hρ : xb P W0 γ L h ρ r) {o : Op} (hk : zO P o ρ L K) : qG P o r h (Aft P h0 W0 γ L h K) := by
 unfold zO at hk
 split at hk
 ·obtain ⟨d, e, hk⟩ := qk hk
  obtain ⟨v, e1, r1⟩ := hρ _ _ e
  simp only [qG, zm, e1]; exact zi H hk r1
 ·obtain ⟨d, e, hk⟩ := qk hk
  obtain ⟨v, e1, r1⟩ := hρ _ _ e
  simp only [qG, zm, e1]; exact zi H hk r1
 ·obtain ⟨d, e, hk⟩ := qk hk
  unfold JS at e
  split at e
  ·rename_i t hc
   obtain ⟨v, e1, r1⟩ := hρ _ _ hc
   have : v = .bool t := PR.scal (P := P) (S := qe W0 γ L h) (h := h) r1
   subst this
   simp only [qG, zm, e1]
   cases t
   ·obtain ⟨u, e2, r2⟩ := hρ _ _ e
    simp only [Bool.false_eq_true, if_false, e2]; exact zi H hk r2
   ·obtain ⟨u, e2, r2⟩ := hρ _ _ e
    simp only [if_true, e2]; exact zi H hk r2
  ·cases e
 ·obtain ⟨ds, e, hk⟩ := qk hk
  obtain ⟨d, e2, hk⟩ := qk hk
  obtain ⟨vs, e1, r1⟩ := Zn hρ e
  obtain ⟨u, e3, r3⟩ := a3q r1 e2
  simp only [qG, zm, e1, e3]; exact zi H hk r3
 ·obtain ⟨x, e, hk⟩ := qk hk
  obtain ⟨d, e2, hk⟩ := qk hk
  obtain ⟨v, e1, r1⟩ := hρ _ _ e
  obtain ⟨u, e3, r3⟩ := a3K r1 e2
  simp only [qG, zm, e1, e3]; exact zi H hk r3
 ·obtain ⟨x, e, hk⟩ := qk hk
  obtain ⟨d, e2, hk⟩ := qk hk
  obtain ⟨v, e1, r1⟩ := hρ _ _ e
  obtain ⟨u, e3, r3⟩ := Vp H r1 e2
  simp only [qG, zm, e1, e3]; exact zi H hk r3
 ·obtain ⟨x, e, hk⟩ := qk hk
  obtain ⟨w, e2, hk⟩ := qk hk
  obtain ⟨d, e3, hk⟩ := qk hk
  obtain ⟨v, e1, r1⟩ := hρ _ _ e
  have hv := jA r1 e2
  rw [hv] at e1
  obtain ⟨u, e4, r4⟩ := wj (P := P) (S := qe W0 γ L h) (γ := γ) (L := L) (h := h) e3
  simp only [qG, zm, e1, e4]; exact zi H hk r4
 ·obtain ⟨x, e, hk⟩ := qk hk
  obtain ⟨y, e2, hk⟩ := qk hk
  obtain ⟨d, e3, hk⟩ := qk hk
  obtain ⟨v, e1, r1⟩ := hρ _ _ e
  obtain ⟨w, e4, r4⟩ := hρ _ _ e2
  obtain ⟨u, e5, r5⟩ := aau r1 r4 e3
  simp only [qG, zm, e1, e4, e5]; exact zi H hk r5
 ·obtain ⟨x, e, hk⟩ := qk hk
  obtain ⟨⟨d, L'⟩, e2, hk⟩ := qk hk
  obtain ⟨v, e1, r1⟩ := hρ _ _ e
  simp only [qG, e1]
  exact a5r H r1 e2 hk
 ·obtain ⟨d, e, hk⟩ := qk hk
  unfold Vx at e
  split at e
  ·rename_i f a b h1 h2 
   split at e
   ·rename_i hb
    cases e
    simp only [Bool.and_eq_true] at hb
    obtain ⟨us, e1, r1⟩ := zF hρ h1
    obtain ⟨ws, e2, r2⟩ := zF hρ h2
    simp only [qG, zm, e1, e2]
    exact zi H hk ⟨_, _, rfl, by simpa using VF hb.1 r1, by simpa using VF hb.2 r2⟩
   ·cases e
  ·cases e
 ·obtain ⟨x, e, hk⟩ := qk hk
  obtain ⟨y, e2, hk⟩ := qk hk
  obtain ⟨d, e3, hk⟩ := qk hk
  obtain ⟨v, e1, r1⟩ := hρ _ _ e
  obtain ⟨w, e4, r4⟩ := hρ _ _ e2
  obtain ⟨u, e5, r5⟩ := xh H r1 r4 e3
  simp only [qG, zm, e1, e4, e5]; exact zi H hk r5
 ·obtain ⟨x, e, hk1⟩ := qk hk
  clear hk
  obtain ⟨y, e2, hk2⟩ := qk hk1
  clear hk1
  obtain ⟨d, e3, hk⟩ := qk hk2
  clear hk2
  obtain ⟨v, e1, r1⟩ := hρ _ _ e
  obtain ⟨w, e4, r4⟩ := hρ _ _ e2
  simp only [qG, zm, e1, e4]
  unfold WT at e3
  split at e3
  ·rename_i len te cs n hu hn
   obtain ⟨k, rfl⟩ := v7 r4 hn
   obtain ⟨vs, rfl, r5⟩ := r1
   split at e3
   ·rename_i s hs
    split at e3
    ·rename_i hc
     have : vs = vs.toList.toArray := by simp
     rw [this, a7J hu hs, if_pos (by omega)]
     obtain ⟨u, e6, r6⟩ := Q1 r5 e3
     rw [e6]
     exact zi H hk (w6 r6)
    ·cases e3
   ·cases e3
  ·rename_i s n hu hn
   obtain ⟨k, rfl⟩ := v7 r4 hn
   have : v = .string s := PR.scal (P := P) (S := qe W0 γ L h) (h := h) r1
   subst this
   split at e3
   ·rename_i hc
    rw [a4S hu, if_pos hc]
    obtain ⟨u, e6, r6⟩ := wj (P := P) (S := qe W0 γ L h) (γ := γ) (L := L) (h := h) e3
    rw [e6]
    exact zi H hk r6
   ·cases e3
  ·cases e3
 ·obtain ⟨x, e, hk⟩ := qk hk
  obtain ⟨d, e2, hk'⟩ := qk hk
  clear hk
  obtain ⟨v, e1, r1⟩ := hρ _ _ e
  unfold QN at e2
  split at e2
  ·obtain ⟨vs, rfl, r2⟩ := r1
   obtain ⟨u, e3, r3⟩ := r2.get e2
   simp only [qG, zm, e1]
   rw [Array.getElem?_toList] at e3
   rw [e3]
   exact zi H hk' (w6 r3)
  ·cases e2
 ·obtain ⟨x, e, hk⟩ := qk hk
  obtain ⟨d, e2, hk⟩ := qk hk
  obtain ⟨v, e1, r1⟩ := hρ _ _ e
  obtain ⟨b, o, rfl, r2⟩ := U3 H r1 e2
  simp only [qG, zm, e1]
  exact zi H hk r2
 ·obtain ⟨x, e, hk⟩ := qk hk
  obtain ⟨d, e2, hk⟩ := qk hk
  obtain ⟨v, e1, r1⟩ := hρ _ _ e
  obtain ⟨u, e3, r3⟩ := Zo H r1 e2
  simp only [qG, e1, e3]; exact zi H hk r3
 ·obtain ⟨x, e, hk⟩ := qk hk
  obtain ⟨y, e2, hk⟩ := qk hk
  obtain ⟨L', e3, hk⟩ := qk hk
  obtain ⟨v, e1, r1⟩ := hρ _ _ e
  obtain ⟨w, e4, r4⟩ := hρ _ _ e2
  obtain ⟨h', e5, H', c⟩ := Kz H r1 r4 e3
  simp only [qG, e1, e4, e5]
  exact ⟨γ, _, L', hk, H', c, ⟨#[], rfl, .nil⟩⟩
 ·obtain ⟨x, e, hk⟩ := qk hk
  obtain ⟨lo, e2, hk⟩ := qk hk
  obtain ⟨hi, e3, hk⟩ := qk hk
  obtain ⟨mx, e4, hk⟩ := qk hk
  obtain ⟨d, e5, hk⟩ := qk hk
  obtain ⟨v, e1, r1⟩ := hρ _ _ e
  obtain ⟨u, e6, r6⟩ := Qw H r1 e5
  simp only [qG, e1, KB hρ e2, KB hρ e3, KB hρ e4, e6]
  exact zi H hk r6
 ·obtain ⟨x, e, hk⟩ := qk hk
  obtain ⟨k1, k2, hk⟩ := hk
  obtain ⟨v, e1, r1⟩ := hρ _ _ e
  obtain ⟨q1, q2⟩ := W8 (yi r1 k1)
  have hsz : v.cells.size = (zG x).length := by rw [q1.length]; simp
  simp only [qG, wa, e1]
  rw [if_pos (by rw [hsz]; exact k2)]
  obtain ⟨γ', a1, a2, a3⟩ := af1 H _ q1
  exact ⟨γ', _, _, hk, a1, a2, a3⟩
 ·obtain ⟨z, e, hk⟩ := qk hk
  obtain ⟨zv, e1, r1⟩ := ZE (P := P) (γ := γ) (L := L) (h := h) (S := qe W0 γ L h) e
  simp only [qG, wa, e1]
  obtain ⟨γ', a1, a2, a3⟩ := af1 H _ r1
  exact ⟨γ', _, _, hk, a1, a2, a3⟩
 ·obtain ⟨ds, e, hk⟩ := qk hk
  obtain ⟨⟨d, L'⟩, e2, hk⟩ := qk hk
  obtain ⟨vs, e1, r1⟩ := Zn hρ e
  obtain ⟨q, mk, e3, ha⟩ := Zz H r1 e2 hk
  simp only [qG, wa, e1, e3]
  exact ha
 ·obtain ⟨f, e, hk⟩ := qk hk
  obtain ⟨ds, e2, hk⟩ := qk hk
  obtain ⟨v, e1, r1⟩ := hρ _ _ e
  obtain ⟨vs, e3, r3⟩ := zF hρ e2
  split at hk
  ·rename_i k pre cap
   obtain ⟨as, bs, rfl, r4, r5⟩ := r1
   simp only [qG, e1, e3, KA]
   have up : ∀ {ds : List DV} {vs : List Value}, All2 (DB P (qe W0 γ L h) γ L h) ds vs → All2 (DR P (qe W0 γ L h) γ L h) ds vs := fun hh => hh.mono fun d v hd => by
    cases d <;> first | exact hd | exact hd.elim
   exact hk h0 W0 γ h _ H (((up r4).append r3).append (up r5))
  ·exact hk.elim
 ·obtain ⟨ds, e, hk⟩ := qk hk
  obtain ⟨vs, e3, r3⟩ := zF hρ e
  split at hk
  ·cases r3 with
   | cons hs t => cases t with
    | cons hx t =>
     cases t
     obtain ⟨⟨d, L'⟩, e2, hk⟩ := qk hk
     obtain ⟨v', h', γ', e4, a1, a2, a3⟩ := Yo H hs hx e2
     simp only [qG, e3, e4]
     exact ⟨γ', _, _, hk, a1, a2, a3⟩
  ·exact hk.elim
 ·obtain ⟨ds, e, hk⟩ := qk hk
  obtain ⟨vs, e3, r3⟩ := zF hρ e
  split at hk
  ·rename_i ht
   cases r3 with
   | cons hx t =>
    cases t
    obtain ⟨d, e2, hk⟩ := qk hk
    obtain ⟨u, e4, r4⟩ := U8 H hx e2
    simp only [qG, e3, ht, e4]
    exact zi H hk r4
  ·exact hk.elim
 ·obtain ⟨ds, e, hk⟩ := qk hk
  obtain ⟨xs, e2, hk⟩ := qk hk
  obtain ⟨d, e4, hk⟩ := qk hk
  obtain ⟨vs, e3, r3⟩ := zF hρ e
  have hv := Jc r3 e2
  rw [hv] at e3
  obtain ⟨u, e5, r5⟩ := wj (P := P) (S := qe W0 γ L h) (γ := γ) (L := L) (h := h) e4
  simp only [qG, zm, e3, wQ, e5]
  exact zi H hk r5
 ·obtain ⟨ds, e, hk⟩ := qk hk
  obtain ⟨xs, e2, hk⟩ := qk hk
  obtain ⟨d, e4, hk⟩ := qk hk
  obtain ⟨vs, e3, r3⟩ := zF hρ e
  have hv := Jc r3 e2
  rw [hv] at e3
  obtain ⟨u, e5, r5⟩ := wj (P := P) (S := qe W0 γ L h) (γ := γ) (L := L) (h := h) e4
  simp only [qG, zm, e3, wQ, e5]
  exact zi H hk r5
 ·exact hk.elim
end
open Go.RowKit
inductive Tr (α : Type) where
 | nil
 | node (v : Option α) (l r : Tr α)
namespace Tr
variable {α : Type}
def get : Tr α → Nat → Option α
 | .nil, _ => none
 | .node v l r, n => if n = 0 then v else if n % 2 = 1 then l.get (n / 2) else r.get (n / 2 - 1)
def set : Nat → Tr α → Nat → Option α → Tr α
 | 0, t, _, _ => t
 | d + 1, .nil, n, x => if n = 0 then .node x .nil .nil else if n % 2 = 1 then .node none (set d .nil (n / 2) x) .nil else .node none .nil (set d .nil (n / 2 - 1) x)
 | d + 1, .node v l r, n, x => if n = 0 then .node x l r else if n % 2 = 1 then .node v (set d l (n / 2) x) r else .node v l (set d r (n / 2 - 1) x)
theorem get_set (x : Option α) : ∀ (d : Nat) (t : Tr α) (n m : Nat), n + 1 < 2 ^ d → (set d t n x).get m = if m = n then x else t.get m
 | 0, t, n, m, h => by simp at h
 | d + 1, .nil, n, m, h => by
  have hp : 2 ^ (d + 1) = 2 * 2 ^ d := by rw [Nat.pow_succ]; omega
  unfold set
  by_cases h0 : n = 0
  ·subst h0
   simp only [if_true, get]
   by_cases hm : m = 0 <;> simp [hm]
  ·rw [if_neg h0]
   by_cases ho : n % 2 = 1
   ·rw [if_pos ho]
    simp only [get]
    by_cases hm : m = 0
    ·rw [if_pos hm, if_neg (by omega)]
    ·rw [if_neg hm]
     by_cases hmo : m % 2 = 1
     ·rw [if_pos hmo, get_set x d .nil (n / 2) (m / 2) (by omega)]
      by_cases he : m = n
      ·rw [if_pos (by omega), if_pos he]
      ·rw [if_neg (by omega), if_neg he]; rfl
     ·rw [if_neg hmo, if_neg (by omega)]
   ·rw [if_neg ho]
    simp only [get]
    by_cases hm : m = 0
    ·rw [if_pos hm, if_neg (by omega)]
    ·rw [if_neg hm]
     by_cases hmo : m % 2 = 1
     ·rw [if_pos hmo, if_neg (by omega)]
     ·rw [if_neg hmo, get_set x d .nil (n / 2 - 1) (m / 2 - 1) (by omega)]
      by_cases he : m = n
      ·rw [if_pos (by omega), if_pos he]
      ·rw [if_neg (by omega), if_neg he]; rfl
 | d + 1, .node v l r, n, m, h => by
  have hp : 2 ^ (d + 1) = 2 * 2 ^ d := by rw [Nat.pow_succ]; omega
  unfold set
  by_cases h0 : n = 0
  ·subst h0
   simp only [if_true, get]
   by_cases hm : m = 0 <;> simp [hm]
  ·rw [if_neg h0]
   by_cases ho : n % 2 = 1
   ·rw [if_pos ho]
    simp only [get]
    by_cases hm : m = 0
    ·rw [if_pos hm, if_neg (by omega)]; simp [hm]
    ·rw [if_neg hm]
     by_cases hmo : m % 2 = 1
     ·rw [if_pos hmo, get_set x d l (n / 2) (m / 2) (by omega)]
      by_cases he : m = n
      ·rw [if_pos (by omega), if_pos he]
      ·rw [if_neg (by omega), if_neg he]; simp [hm, hmo]
     ·rw [if_neg hmo, if_neg (by omega)]; simp [hm, hmo]
   ·rw [if_neg ho]
    simp only [get]
    by_cases hm : m = 0
    ·rw [if_pos hm, if_neg (by omega)]; simp [hm]
    ·rw [if_neg hm]
     by_cases hmo : m % 2 = 1
     ·rw [if_pos hmo, if_neg (by omega)]; simp [hm, hmo]
     ·rw [if_neg hmo, get_set x d r (n / 2 - 1) (m / 2 - 1) (by omega)]
      by_cases he : m = n
      ·rw [if_pos (by omega), if_pos he]
      ·rw [if_neg (by omega), if_neg he]; simp [hm, hmo]
end Tr
structure PH where
 next : Nat
 t : Tr AObj
def PH.get (p : PH) (b : Nat) : Option AObj := if b < p.next then p.t.get b else none
def PH.heap (p : PH) : Heap := ⟨p.next, p.get, fun b o h => by
 unfold PH.get at h
 split at h
 ·assumption
 ·cases h⟩
def PH.room : Nat := 1073741824
def PH.push (p : PH) (o : AObj) : PH := ⟨p.next + 1, Tr.set 31 p.t p.next (some o)⟩
def PH.set (p : PH) (b : Nat) (o : AObj) : PH := ⟨p.next, Tr.set 31 p.t b (some o)⟩
def PH.kill (p : PH) (b : Nat) : PH := ⟨p.next, Tr.set 31 p.t b none⟩
theorem Heap.ext' {h h' : Heap} (hn : h.next = h'.next) (hg : ∀ b, h.get b = h'.get b) : h = h' := by
 cases h; cases h'
 simp only at hn hg
 subst hn
 have := funext hg
 subst this
 rfl
theorem PH.push_heap {p : PH} (o : AObj) (h : p.next < PH.room) : (p.push o).heap = p.heap.push o := by
 refine Heap.ext' rfl fun b => ?_
 show (p.push o).get b = if b = p.next then some o else p.get b
 unfold PH.get PH.push
 simp only
 rw [Tr.get_set _ 31 _ _ _ (by unfold PH.room at h; omega)]
 by_cases hb : b = p.next
 ·simp [hb]
 ·by_cases hl : b < p.next
  ·rw [if_pos (by omega), if_neg hb, if_neg hb, if_pos hl]
  ·rw [if_neg (by omega), if_neg hb, if_neg hl]
theorem PH.set_heap {p : PH} {b : Nat} {o o' : AObj} (hg : p.get b = some o') (h : p.next ≤ PH.room) : (p.set b o).heap = p.heap.set b o := by
 have hlt : b < p.next := by
  unfold PH.get at hg
  split at hg
  ·assumption
  ·cases hg
 refine Heap.ext' rfl fun c => ?_
 show (p.set b o).get c = if c = b then (p.get b).map (fun _ => o) else p.get c
 rw [hg]
 unfold PH.get PH.set
 simp only
 rw [Tr.get_set _ 31 _ _ _ (by unfold PH.room at h; omega)]
 by_cases hb : c = b
 ·subst hb; simp [hlt]
 ·simp [hb]
theorem PH.kill_heap {p : PH} {b : Nat} (hlt : b < p.next) (h : p.next ≤ PH.room) : (p.kill b).heap = p.heap.kill b := by
 refine Heap.ext' rfl fun c => ?_
 show (p.kill b).get c = if c = b then none else p.get c
 unfold PH.get PH.kill
 simp only
 rw [Tr.get_set _ 31 _ _ _ (by unfold PH.room at h; omega)]
 by_cases hb : c = b
 ·subst hb; simp
 ·simp [hb]
open Go.RowKit
abbrev KX := Value → PH → Bool
def up (K : KX) (v : Value) (h : Heap) : Prop := ∃ p : PH, p.heap = h ∧ K v p = true
def Wp (p : PH) (o : AObj) (K : PH → Bool) : Bool := decide (p.next < PH.room) && K (p.push o)
theorem kB {p : PH} {o : AObj} {K : PH → Bool} (h : Wp p o K = true) : (p.push o).heap = p.heap.push o ∧ K (p.push o) = true := by
 simp only [Wp, Bool.and_eq_true, decide_eq_true_eq] at h
 exact ⟨PH.push_heap o h.1, h.2⟩
def Y3 (p : PH) (b : Nat) (o : AObj) : Option PH := if p.next ≤ PH.room then some (p.set b o) else none
theorem zJ {p p' : PH} {b : Nat} {o o' : AObj} (h : Y3 p b o = some p') (hg : p.get b = some o') : p'.heap = p.heap.set b o := by
 unfold Y3 at h
 split at h
 ·cases h; exact PH.set_heap hg (by assumption)
 ·cases h
def aaX (P : Program) (t : TypeId) (p : PH) (a x : Value) : Option PH :=
 match a with
 | .pointer (some ⟨b, i, none⟩) =>
  match p.get b with
  | some (.cells cs e true) =>
   if szT P t = some x.cells.size ∧ i + x.cells.size ≤ cs.length ∧ x.cells.toList.all Value.oneCell' = true then
    Y3 p b (.cells (qR cs i x.cells.toList) e true)
   else none
  | _ => none
 | _ => none
theorem a2s {P : Program} {t : TypeId} {p p' : PH} {a x : Value} (h : aaX P t p a x = some p') : ya P t p.heap a x = some p'.heap := by
 unfold aaX at h
 unfold ya
 split at h
 ·rename_i b i
  split at h
  ·rename_i cs e hg
   split at h
   ·rename_i hc
    have hg' : p.heap.get b = some (.cells cs e true) := hg
    simp only [hg', if_pos hc, zJ h hg]
   ·cases h
  ·cases h
 ·cases h
def a45 (P : Program) (ts : List TypeId) (h : Heap) (s x : Value) : Option (Value × Option (Option Nat × AObj)) :=
 match ts with
 | [t, t2] =>
  match P.underlying t with
  | some (.slice e) =>
   match P.info? e, za P e with
   | some i, some _ =>
    match a0w P i.size t2 h x with
    | some (m, news) =>
     match s with
     | .slice none 0 0 =>
      if m = 0 then some (s, none) else
      if m ≤ maxLen ∧ m * i.bytes ≤ 140737488355328 then some (qz m unk h.next, some (none, .cells news e true)) else none
     | .slice (some ⟨b, o, none⟩) n c =>
      if m = 0 then some (s, none) else
      if c = dud ∨ c = qN then none else
      if n + m ≤ maxLen ∧ (n + m) * i.bytes ≤ 140737488355328 then
       if n = 0 ∧ c = 0 then some (qz (n + m) unk h.next, some (none, .cells news e true)) else
       match h.get b with
       | some (.cells cs e' rw) =>
        if o + n * i.size ≤ cs.length ∧ ((c ≠ unk ∧ c < n + m) ∨ (szT P e' = some i.size ∧ e' = e)) then
         if c ≠ unk ∧ c < n + m then some (qz (n + m) unk h.next, some (none, .cells ((cs.drop o).take (n * i.size) ++ news) e true))
         else if rw then some (qz (n + m) unk h.next, some (some b, .cells ((cs.drop o).take (n * i.size) ++ news) e true)) else none
        else none
       | _ => none
      else none
     | _ => none
    | none => none
   | _, _ => none
  | _ => none
 | _ => none
def W5 (h : Heap) : Option (Option Nat × AObj) → Heap
 | none => h
 | some (none, q) => h.push q
 | some (some b, q) => (h.kill b).push q
theorem a1a {P : Program} {ts : List TypeId} {h : Heap} {s x v : Value} {act : Option (Option Nat × AObj)} (ha : a45 P ts h s x = some (v, act)) :
  jf P ts h s x = some (v, W5 h act) ∧ ∀ b q, act = some (some b, q) → ∃ o, h.get b = some o := by
 unfold a45 at ha
 unfold jf
 split at ha
 ·split at ha
  ·split at ha
   ·split at ha
    ·rename_i m news hs
     simp only [*]
     split at ha
     ·split at ha
      ·cases ha; simp [*, W5]
      ·split at ha
       ·cases ha; simp [*, W5]
       ·cases ha
     ·split at ha
      ·cases ha; simp [*, W5]
      ·split at ha
       ·cases ha
       ·rename_i hdn'
        split at ha
        ·rename_i hbd
         split at ha
         ·rename_i h00
          cases ha
          simp only [W5]
          refine ⟨?_, fun b q hq => by cases hq⟩
          show (if m = 0 then _ else _) = _
          rw [if_neg ‹¬m = 0›, if_neg hdn', if_pos hbd, if_pos h00]
         rename_i h00
         split at ha
         ·split at ha
          ·rename_i hc4
           obtain ⟨q1, q2⟩ := hc4
           split at ha
           ·rename_i hc5
            cases ha
            obtain ⟨r1, r2⟩ := hc5
            simp [*, W5]
           ·rename_i hc5
            split at ha
            ·cases ha
             refine ⟨?_, fun b q hq => ?_⟩
             ·show (if m = 0 then _ else _) = _
              rw [if_neg ‹¬m = 0›, if_neg hdn', if_pos hbd, if_neg h00]
              simp only [*, W5]
              simp
              exact q2.resolve_left hc5
             ·cases hq
              exact ⟨_, by assumption⟩
            ·cases ha
          ·cases ha
         ·cases ha
        ·cases ha
     ·cases ha
    ·cases ha
   ·cases ha
  ·cases ha
 ·cases ha
def a9U (p : PH) : Option (Option Nat × AObj) → (PH → Bool) → Bool
 | none, K => K p
 | some (none, q), K => Wp p q K
 | some (some b, q), K => decide (p.next ≤ PH.room) && Wp (p.kill b) q K
theorem a3g {p : PH} {act : Option (Option Nat × AObj)} {K : PH → Bool} (h : a9U p act K = true) (hb : ∀ b q, act = some (some b, q) → ∃ o, p.heap.get b = some o) : ∃ p' : PH, p'.heap = W5 p.heap act ∧ K p' = true := by
 match act, h, hb with
 | none, h, _ => exact ⟨p, rfl, h⟩
 | some (none, q), h, _ => exact ⟨_, (kB h).1, (kB h).2⟩
 | some (some b, q), h, hb =>
  simp only [a9U, Bool.and_eq_true, decide_eq_true_eq] at h
  obtain ⟨h1, h2⟩ := kB h.2
  obtain ⟨o, ho⟩ := hb b q rfl
  have hlt := p.heap.wf _ _ ho
  exact ⟨_, by rw [h1, PH.kill_heap hlt h.1]; rfl, h2⟩
def agm (P : Program) (ts : List TypeId) (p : PH) (d x : Value) : Option (Value × PH) :=
 match ts with
 | [t, t2] =>
  match P.underlying t with
  | some (.slice e) =>
   match szT P e with
   | some z =>
    match a0w P z t2 p.heap x with
    | some (m, news) =>
     match d with
     | .slice none 0 0 => if m = 0 then some (goInt 0, p) else none
     | .slice (some ⟨b, o, none⟩) n _ =>
      if m = 0 then some (goInt 0, p) else
      if m ≤ n then
       match p.get b with
       | some (.cells cs e' true) => if o + news.length ≤ cs.length then (Y3 p b (.cells (qR cs o news) e' true)).map fun p' => (goInt m, p') else none
       | _ => none
      else none
     | _ => none
    | none => none
   | none => none
  | _ => none
 | _ => none
theorem a5d {P : Program} {ts : List TypeId} {p p' : PH} {d x v : Value} (h : agm P ts p d x = some (v, p')) : Yl P ts p.heap d x = some (v, p'.heap) := by
 unfold agm at h
 unfold Yl
 split at h
 ·split at h
  ·split at h
   ·split at h
    ·simp only [*]
     split at h
     ·split at h
      ·cases h; simp [*]
      ·cases h
     ·split at h
      ·cases h; simp [*]
      ·split at h
       ·split at h
        ·rename_i cs e' hg
         split at h
         ·rename_i hle
          rw [Option.map_eq_some_iff] at h
          obtain ⟨p2, h1, h2⟩ := h
          cases h2
          have hg' : p.heap.get _ = some (.cells cs e' true) := hg
          simp only [*, if_true, if_false, zJ h1 hg]
         ·cases h
        ·cases h
       ·cases h
     ·cases h
    ·cases h
   ·cases h
  ·cases h
 ·cases h
def XI (P : Program) (t : TypeId) (p : PH) (m k v : Value) : Option PH :=
 match P.underlying t, m with
 | some (.map kt _), .map (some r) =>
  match p.get r with
  | some (.map es ck) =>
   if jD P kt k = true then
    match yn P kt k es 0 with
    | some f => if a4a es k f = true then Y3 p r (.map (a3W es ck k v f).1 (a3W es ck k v f).2) else none
    | none => none
   else none
  | _ => none
 | _, _ => none
theorem Y8 {P : Program} {t : TypeId} {p p' : PH} {m k v : Value} (h : XI P t p m k v = some p') : Zt P t p.heap m k v = some p'.heap := by
 unfold XI at h
 unfold Zt
 split at h
 ·split at h
  ·rename_i es ck hg
   have hg' : p.heap.get _ = some (.map es ck) := hg
   split at h
   ·split at h
    ·split at h
     ·simp only [*, if_true, zJ h hg]
     ·cases h
    ·cases h
   ·cases h
  ·cases h
 ·cases h
def a38 (P : Program) (t : TypeId) (p : PH) (m k : Value) : Option PH :=
 match P.underlying t, m with
 | some (.map kt _), .map none => if jD P kt k = true then some p else none
 | some (.map kt _), .map (some r) =>
  match p.get r with
  | some (.map es ck) =>
   if jD P kt k = true then
    match yn P kt k es 0 with
    | some (some (i, _)) => Y3 p r (.map (es.eraseIdx i) ck)
    | some none => Y3 p r (.map es ck)
    | none => none
   else none
  | _ => none
 | _, _ => none
theorem a0s {P : Program} {t : TypeId} {p p' : PH} {m k : Value} (h : a38 P t p m k = some p') : vV P t p.heap m k = some p'.heap := by
 unfold a38 at h
 unfold vV
 split at h
 ·split at h
  ·cases h; simp [*]
  ·cases h
 ·split at h
  ·rename_i es ck hg
   have hg' : p.heap.get _ = some (.map es ck) := hg
   split at h
   ·split at h
    ·simp only [*, if_true, zJ h hg]
    ·simp only [*, if_true, zJ h hg]
    ·cases h
   ·cases h
  ·cases h
 ·cases h
open Go.RowKit
abbrev Yr := Fn → List Value → PH → KX → Bool
def aiO (P : Program) (f : Fn) (args : List Value) (h : Heap) (K : Value → Heap → Prop) : Prop :=
 match f with
 | .func k => ADoes P k args h K
 | .yield l => AYield P l args h K
 | _ => False
def uk (P : Program) (call : Yr) : Prop := ∀ f args p K, call f args p K = true → aiO P f args p.heap (up K)
def ah7 (P : Program) (e : TypeId) : Bool := match P.underlying e with
 | some (.int .u8) => true
 | _ => false
theorem YS {P : Program} {e : TypeId} (h : ah7 P e = true) : P.underlying e = some (.int .u8) := by
 unfold ah7 at h
 split at h
 ·assumption
 ·cases h
def ahB (P : Program) (s d : TypeId) (x : Value) (p : PH) (K : KX) : Bool :=
 match P.underlying s, P.underlying d, x with
 | some (.slice e), some .string, x => ah7 P e && match jL p.heap x with
  | some v => K v p
  | none => false
 | some .string, some (.slice e), .string t => ah7 P e && (szT P e == some 1) && decide (t.size ≤ maxLen) && Wp p (.cells (jQ t) e true) (K (qz t.size unk p.next))
 | some (.slice _), some (.slice e), .slice (some ⟨b, o, none⟩) n c => s == d && !(c == dud) && !(n == 0 && c == 0) && ah7 P e && match p.get b with
  | some (.cells _ _ true) => K (.slice (some ⟨b, o, none⟩) n c) p
  | _ => false
 | _, _, x => match xK P s d x with
  | some v => K v p
  | none => false
theorem a73 {P : Program} {s d : TypeId} {x : Value} {p : PH} {K : KX} (h : ahB P s d x p K = true) : wo P s d x p.heap (up K) := by
 unfold ahB at h
 unfold wo
 split at h
 ·rename_i e _ hs hd
  rw [Bool.and_eq_true] at h
  simp only [hs, hd]
  refine ⟨YS h.1, ?_⟩
  have h2 := h.2
  split at h2
  ·rename_i v hv; rw [hv]; exact ⟨p, rfl, h2⟩
  ·cases h2
 ·rename_i e t hs hd
  simp only [Bool.and_eq_true, beq_iff_eq, decide_eq_true_eq] at h
  obtain ⟨⟨⟨h1, h2⟩, h3⟩, h4⟩ := h
  obtain ⟨k1, k2⟩ := kB h4
  simp only [hs, hd]
  exact ⟨YS h1, h2, h3, _, k1, k2⟩
 ·rename_i e0 e b o n c hs hd
  simp only [Bool.and_eq_true, beq_iff_eq, Bool.not_eq_true', beq_eq_false_iff_ne] at h
  obtain ⟨⟨⟨⟨h1, h2⟩, h2'⟩, h3⟩, h4⟩ := h
  simp only [hs, hd]
  refine ⟨h1, ⟨h2, fun q => ?_⟩, YS h3, ?_⟩
  ·obtain ⟨rfl, rfl⟩ := q
   simp at h2'
  split at h4
  ·rename_i hg
   show match p.get b with
    | some (.cells _ _ true) => up K _ p.heap
    | _ => False
   rw [hg]; exact ⟨p, rfl, h4⟩
  ·cases h4
 ·rename_i n1 n2 n3
  split at h
  ·rename_i v hv
   split
   ·rename_i e _ hs hd
    exact absurd hd (n1 _ hs)
   ·rename_i e t hs hd
    exact absurd rfl (n2 _ _ hs hd)
   ·rename_i hs hd
    exact absurd rfl (n3 _ _ _ _ _ _ hs hd)
   ·rw [hv]; exact ⟨p, rfl, h⟩
  ·cases h
def a5E (P : Program) (o : Op) (ρ : Rho) (p : PH) (K : KX) : Bool :=
 match wa P o ρ with
 | some (q, mk) => Wp p q (K (mk p.next))
 | none => false
theorem yG {P : Program} {o : Op} {ρ : Rho} {p : PH} {K : KX} (h : a5E P o ρ p K = true) : (match wa P o ρ with
  | some (q, mk) => up K (mk p.heap.next) (p.heap.push q)
  | none => False) := by
 unfold a5E at h
 split at h
 ·rename_i q mk hn
  obtain ⟨k1, k2⟩ := kB h
  exact ⟨_, k1, k2⟩
 ·cases h
def aaY (P : Program) (t : TypeId) (x : Value) (p : PH) (K : KX) : Bool :=
 match P.underlying t, x with
 | some .string, .string s => Wp p (.striter s 0) (K (jn p.next))
 | some (.map _ _), .map none => Wp p (.iter none 0 [] 0) (K (jn p.next))
 | some (.map _ _), .map (some r) => match p.get r with
  | some (.map _ ck) => Wp p (.iter (some r) ck [] ck) (K (jn p.next))
  | _ => false
 | _, _ => false
theorem a2B {P : Program} {t : TypeId} {x : Value} {p : PH} {K : KX} (h : aaY P t x p K = true) : Zk P t x p.heap (up K) := by
 unfold aaY at h
 unfold Zk
 split at h
 ·obtain ⟨k1, k2⟩ := kB h; simp only [*]; exact ⟨_, k1, k2⟩
 ·obtain ⟨k1, k2⟩ := kB h; simp only [*]; exact ⟨_, k1, k2⟩
 ·split at h
  ·rename_i es ck hg
   obtain ⟨k1, k2⟩ := kB h
   have hg' : p.heap.get _ = some (.map es ck) := hg
   simp only [*]; exact ⟨_, k1, k2⟩
  ·cases h
 ·cases h
def af9 (P : Program) (it : Value) (isString : Bool) (p : PH) (K : KX) : Bool :=
 match it, isString with
 | .pointer (some ⟨r, 0, none⟩), true => match p.get r with
  | some (.striter s pos) =>
   if pos < s.size then (match Y3 p r (.striter s (pos + (Utf8.decode s pos).2)) with
    | some p' => K (.tuple #[.bool true, goInt pos, .int .i32 (Utf8.decode s pos).1]) p'
    | none => false)
   else K (.tuple #[.bool false]) p
  | _ => false
 | .pointer (some ⟨r, 0, none⟩), false => match p.get r with
  | some (.iter none _ _ _) => K (.tuple #[.bool false]) p
  | some (.iter (some b) since seen last) => match p.get b with
   | some (.map es ck) =>
    !(!seen.isEmpty && !es.isEmpty && es.all fun e => decide (e.born ≥ last)) &&
    (!((es.filter fun e => !seen.contains e.born).filter fun e => decide (e.born < since)).isEmpty || K (.tuple #[.bool false]) p) &&
    es.all fun e => seen.contains e.born || (match Y3 p r (.iter (some b) since (seen ++ [e.born]) ck) with
     | some p' => K (.tuple #[.bool true, e.key, e.val]) p'
     | none => false)
   | _ => false
  | _ => false
 | _, _ => false
theorem a6q {P : Program} {it : Value} {isString : Bool} {p : PH} {K : KX} (h : af9 P it isString p K = true) : Wb P it isString p.heap (up K) := by
 unfold af9 at h
 unfold Wb
 split at h
 ·rename_i r
  split at h
  ·rename_i s pos hg
   have hg' : p.heap.get r = some (.striter s pos) := hg
   simp only [hg']
   split at h
   ·rename_i hp
    rw [if_pos hp]
    split at h
    ·rename_i p' hs
     exact ⟨p', zJ hs hg, h⟩
    ·cases h
   ·rename_i hp
    rw [if_neg hp]
    exact ⟨p, rfl, h⟩
  ·cases h
 ·rename_i r
  split at h
  ·rename_i a b c hg
   have hg' : p.heap.get r = some (.iter none a b c) := hg
   simp only [hg']
   exact ⟨p, rfl, h⟩
  ·rename_i b since seen last hg
   have hg' : p.heap.get r = some (.iter (some b) since seen last) := hg
   simp only [hg']
   split at h
   ·rename_i es ck hgb
    have hgb' : p.heap.get b = some (.map es ck) := hgb
    simp only [hgb']
    rw [Bool.and_eq_true, Bool.and_eq_true] at h
    obtain ⟨⟨h1, h2⟩, h3⟩ := h
    have h1' : (!seen.isEmpty && !es.isEmpty && es.all fun e => decide (e.born ≥ last)) = false := by
     cases hq : (!seen.isEmpty && !es.isEmpty && es.all fun e => decide (e.born ≥ last)) with
     | false => rfl
     | true => rw [hq] at h1; cases h1
    refine ⟨h1', fun he => ?_, fun e he hs => ?_⟩
    ·rw [he] at h2
     exact ⟨p, rfl, by simpa using h2⟩
    ·have := List.all_eq_true.1 h3 e he
     rw [hs] at this
     simp only [Bool.false_or] at this
     split at this
     ·rename_i p' hset
      exact ⟨p', zJ hset hg, this⟩
     ·cases this
   ·cases h
  ·cases h
 ·cases h
def a9R (P : Program) (it : Value) (p : PH) (K : KX) : Bool :=
 match it with
 | .pointer (some ⟨r, 0, none⟩) => match p.get r with
  | some (.iter (some b) _ seen last) => match seen.getLast?, p.get b with
   | some stamp, some (.map es ck) => decide (ck = last) &&
     match es.find? (fun e => e.born == stamp) with
     | some e => K (.tuple #[e.key, e.val]) p
     | none => false
   | _, _ => false
  | _ => false
 | _ => false
theorem a2x {P : Program} {it : Value} {p : PH} {K : KX} (h : a9R P it p K = true) : ZD P it p.heap (up K) := by
 unfold a9R at h
 unfold ZD
 split at h
 ·rename_i r
  split at h
  ·rename_i b since seen last hg
   have hg' : p.heap.get r = some (.iter (some b) since seen last) := hg
   simp only [hg']
   split at h
   ·rename_i stamp es ck hl hgb
    have hgb' : p.heap.get b = some (.map es ck) := hgb
    simp only [hl, hgb']
    rw [Bool.and_eq_true, decide_eq_true_eq] at h
    obtain ⟨h1, h2⟩ := h
    rw [if_pos h1]
    split at h2
    ·rename_i e he; rw [he]; exact ⟨p, rfl, h2⟩
    ·cases h2
   ·cases h
  ·cases h
 ·cases h
open Go.RowKit
def akB (P : Program) (s : SelectCase) (ρ : Rho) (p : PH) (K : KX) : Bool :=
 match (P.info? s.elem).bind (·.zero), ρ s.chan with
 | some z, some (.chan (some r)) => qL z && match p.get r with
  | some (.chan cap buf) => match s.send with
   | some x => match ρ x with
    | some v => if buf.length < cap then (match Y3 p r (.chan cap (buf ++ [v])) with
      | some p' => K (.tuple #[goInt 0, .bool false]) p'
      | none => false) else K (.tuple #[goInt (-1), .bool false]) p
    | none => false
   | none => match buf with
    | [] => K (.tuple #[goInt (-1), .bool false, z]) p
    | v :: rest => match Y3 p r (.chan cap rest) with
     | some p' => K (.tuple #[goInt 0, .bool true, v]) p'
     | none => false
  | _ => false
 | _, _ => false
theorem aaU {P : Program} {s : SelectCase} {ρ : Rho} {p : PH} {K : KX} (h : akB P s ρ p K = true) : JD P s ρ p.heap (up K) := by
 unfold akB at h
 unfold JD
 split at h
 ·rename_i z r hz hch
  simp only [hz, hch]
  rw [Bool.and_eq_true] at h
  refine ⟨h.1, ?_⟩
  have h2 := h.2
  split at h2
  ·rename_i cap buf hg
   have hg' : p.heap.get r = _ := hg
   simp only [hg']
   split at h2
   ·rename_i x hx
    split at h2
    ·rename_i v hv
     split at h2
     ·rename_i hroom
      simp only [hx, hv]; rw [if_pos hroom]
      split at h2
      ·rename_i p' hs; exact ⟨p', zJ hs hg, h2⟩
      ·cases h2
     ·rename_i hroom
      simp only [hx, hv]; rw [if_neg hroom]
      exact ⟨p, rfl, h2⟩
    ·cases h2
   ·rename_i hx
    simp only [hx]
    split at h2
    ·exact ⟨p, rfl, h2⟩
    ·split at h2
     ·rename_i p' hs; exact ⟨p', zJ hs hg, h2⟩
     ·cases h2
  ·cases h2
 ·cases h
def opX (P : Program) (call : Yr) (o : Op) (ρ : Rho) (p : PH) (K : KX) : Bool :=
 match o with
 | .load t x => match ρ x with
  | some q => match jh P t p.heap q with
   | some v => K v p
   | none => false
  | none => false
 | .store t x y => match ρ x, ρ y with
  | some q, some v => match aaX P t p q v with
   | some p' => K undef p'
   | none => false
  | _, _ => false
 | .slice t x lo hi mx => match ρ x, jV ρ lo, jV ρ hi, jV ρ mx with
  | some v, some l, some hh, some m => match zo P (zd P p.heap) t v l hh m with
   | some v => K v p
   | none => false
  | _, _, _, _ => false
 | .convert s d x => match ρ x with
  | some v => ahB P s d v p K
  | none => false
 | .box t x => a5E P (.box t x) ρ p K
 | .alloc t => a5E P (.alloc t) ρ p K
 | .buildSlice t n ps => a5E P (.buildSlice t n ps) ρ p K
 | .makeSlice t l c => a5E P (.makeSlice t l c) ρ p K
 | .makeMap t r => a5E P (.makeMap t r) ρ p K
 | .makeChan t r => a5E P (.makeChan t r) ρ p K
 | .select cases false => match cases.toList with
  | [s] => akB P s ρ p K
  | _ => false
 | .call { callee := .value f, args := args, argTypes := _ } => match ρ f, je ρ args.toList with
  | some (.func (.func k) first cap), some vs => call (.func k) (first.toList ++ vs ++ cap.toList) p K
  | some (.func (.yield l) xs _), some vs => Nat.beq xs.size 0 && call (.yield l) vs p K
  | _, _ => false
 | .call { callee := .builtin .append, args := args, argTypes := ts } => match je ρ args.toList with
  | some [s, x] => match a45 P ts.toList p.heap s x with
   | some (v, act) => a9U p act (K v)
   | none => false
  | _ => false
 | .call { callee := .builtin .len, args := args, argTypes := ts } => match je ρ args.toList, ts.toList with
  | some [x], [t] => match Xa P t p.heap x with
   | some v => K v p
   | none => false
  | _, _ => false
 | .call { callee := .builtin .cap, args := args, argTypes := ts } => match je ρ args.toList, ts.toList with
  | some [x], [t] => match ajL P t p.heap x with
   | some v => K v p
   | none => false
  | _, _ => false
 | .call { callee := .builtin .clear, args := args, argTypes := ts } => match je ρ args.toList, ts.toList with
  | some [x], [t] => match a3p P t x with
   | some v => K v p
   | none => false
  | _, _ => false
 | .call { callee := .builtin .copy, args := args, argTypes := ts } => match je ρ args.toList with
  | some [d, x] => match agm P ts.toList p d x with
   | some (v, p') => K v p'
   | none => false
  | _ => false
 | .call { callee := .builtin .delete, args := args, argTypes := ts } => match je ρ args.toList, ts.toList with
  | some [m, k], t :: _ => match a38 P t p m k with
   | some p' => K (.tuple #[]) p'
   | none => false
  | _, _ => false
 | .insert t x y z => match ρ x, ρ y, ρ z with
  | some m, some k, some v => match XI P t p m k v with
   | some p' => K undef p'
   | none => false
  | _, _, _ => false
 | .mapUpdate t x y z => match ρ x, ρ y, ρ z with
  | some m, some k, some v => match XI P t p m k v with
   | some p' => K undef p'
   | none => false
  | _, _, _ => false
 | .lookup t x y ok => match ρ x, ρ y with
  | some m, some k => match WI P t p.heap m k ok with
   | some v => K v p
   | none => false
  | _, _ => false
 | .range t x => match ρ x with
  | some v => aaY P t v p K
  | none => false
 | .next x s => match ρ x with
  | some v => af9 P v s p K
  | none => false
 | .entry x => match ρ x with
  | some v => a9R P v p K
  | none => false
 | .makeInterface t x => match ρ x with
  | some v => match a8W P t v with
   | some v' => K v' p
   | none => false
  | none => false
 | .typeAssert x _ t ok => match ρ x with
  | some v => match a4r P v t ok with
   | some v' => K v' p
   | none => false
  | none => false
 | o => match zm P o ρ with
  | some v => K v p
  | none => false
theorem adi {P : Program} {call : Yr} (hc : uk P call) {o : Op} {ρ : Rho} {p : PH} {K : KX} (h : opX P call o ρ p K = true) : qG P o ρ p.heap (up K) := by
 unfold opX at h
 unfold qG
 split at h
 ·split at h
  ·split at h
   ·simp only [*]; exact ⟨p, rfl, h⟩
   ·cases h
  ·cases h
 ·split at h
  ·split at h
   ·rename_i p' hs
    simp only [*, a2s hs]; exact ⟨p', rfl, h⟩
   ·cases h
  ·cases h
 ·split at h
  ·split at h
   ·simp only [*]; exact ⟨p, rfl, h⟩
   ·cases h
  ·cases h
 ·split at h
  ·simp only [*]; exact a73 h
  ·cases h
 ·exact yG h
 ·exact yG h
 ·exact yG h
 ·exact yG h
 ·exact yG h
 ·exact yG h
 ·split at h
  ·simp only [*]; exact aaU h
  ·cases h
 ·split at h
  ·rename_i k _ _ _ _ _; simp only [*]; exact hc (.func k) _ _ _ h
  ·rename_i l _ _ _ _ _; rw [Bool.and_eq_true] at h; simp only [*]; exact ⟨Nat.eq_of_beq_eq_true h.1, hc (.yield l) _ _ _ h.2⟩
  ·cases h
 ·split at h
  ·split at h
   ·rename_i v act ha
    obtain ⟨h1, h2⟩ := a1a ha
    obtain ⟨p', k1, k2⟩ := a3g h h2
    simp only [*]; exact ⟨p', k1, k2⟩
   ·cases h
  ·cases h
 ·split at h
  ·split at h
   ·simp only [*]; exact ⟨p, rfl, h⟩
   ·cases h
  ·cases h
 ·split at h
  ·split at h
   ·simp only [*]; exact ⟨p, rfl, h⟩
   ·cases h
  ·cases h
 ·split at h
  ·split at h
   ·simp only [*]; exact ⟨p, rfl, h⟩
   ·cases h
  ·cases h
 ·split at h
  ·split at h
   ·rename_i v p' ha
    simp only [*, a5d ha]; exact ⟨p', rfl, h⟩
   ·cases h
  ·cases h
 ·split at h
  ·split at h
   ·rename_i p' ha
    simp only [*, a0s ha]; exact ⟨p', rfl, h⟩
   ·cases h
  ·cases h
 ·split at h
  ·split at h
   ·rename_i p' ha
    simp only [*, Y8 ha]; exact ⟨p', rfl, h⟩
   ·cases h
  ·cases h
 ·split at h
  ·split at h
   ·rename_i p' ha
    simp only [*, Y8 ha]; exact ⟨p', rfl, h⟩
   ·cases h
  ·cases h
 ·split at h
  ·split at h
   ·simp only [*]; exact ⟨p, rfl, h⟩
   ·cases h
  ·cases h
 ·split at h
  ·simp only [*]; exact a2B h
  ·cases h
 ·split at h
  ·simp only [*]; exact a6q h
  ·cases h
 ·split at h
  ·simp only [*]; exact a2x h
  ·cases h
 ·split at h
  ·split at h
   ·simp only [*]; exact ⟨p, rfl, h⟩
   ·cases h
  ·cases h
 ·split at h
  ·split at h
   ·simp only [*]; exact ⟨p, rfl, h⟩
   ·cases h
  ·cases h
 ·split at h
  ·simp only [*]; exact ⟨p, rfl, h⟩
  ·cases h
abbrev FX := Frm → PH → Bool
def a7H (P : Program) (call : Yr) : List C → FX → FX
 | [], K, a, p => K a p
 | c :: r, K, a, p => match c.g with
  | none => opX P call c.op a.ev p (fun v p' => a7H P call r K (a.put c.d v) p')
  | some (t, want) => match zE t want a with
   | some true => opX P call c.op a.ev p (fun v p' => a7H P call r K (a.put c.d v) p')
   | some false => a7H P call r K (a.put c.d undef) p
   | none => false
theorem a6N {P : Program} {s d : TypeId} {x : Value} {h : Heap} {K K' : Value → Heap → Prop} (hk : ∀ v h, K v h → K' v h) (q : wo P s d x h K) : wo P s d x h K' := by
 unfold wo at q ⊢
 split at q
 ·refine ⟨q.1, ?_⟩
  have q2 := q.2
  split at q2
  ·exact hk _ _ q2
  ·exact q2.elim
 ·exact ⟨q.1, q.2.1, q.2.2.1, hk _ _ q.2.2.2⟩
 ·refine ⟨q.1, q.2.1, q.2.2.1, ?_⟩
  have q2 := q.2.2.2
  split at q2
  ·exact hk _ _ q2
  ·exact q2.elim
 ·split at q
  ·exact hk _ _ q
  ·exact q.elim
theorem a3b {P : Program} {t : TypeId} {x : Value} {h : Heap} {K K' : Value → Heap → Prop} (hk : ∀ v h, K v h → K' v h) (q : Zk P t x h K) : Zk P t x h K' := by
 unfold Zk at q ⊢
 split at q
 ·exact hk _ _ q
 ·exact hk _ _ q
 ·split at q
  ·exact hk _ _ q
  ·exact q.elim
 ·exact q.elim
theorem a7U {P : Program} {x : Value} {s : Bool} {h : Heap} {K K' : Value → Heap → Prop} (hk : ∀ v h, K v h → K' v h) (q : Wb P x s h K) : Wb P x s h K' := by
 unfold Wb at q ⊢
 split at q
 ·split at q
  ·split at q
   ·rename_i hl; rw [if_pos hl]; exact hk _ _ q
   ·rename_i hl; rw [if_neg hl]; exact hk _ _ q
  ·exact q.elim
 ·split at q
  ·exact hk _ _ q
  ·split at q
   ·exact ⟨q.1, fun e => hk _ _ (q.2.1 e), fun e he hs => hk _ _ (q.2.2 e he hs)⟩
   ·exact q.elim
  ·exact q.elim
 ·exact q.elim
theorem a2r {P : Program} {x : Value} {h : Heap} {K K' : Value → Heap → Prop} (hk : ∀ v h, K v h → K' v h) (q : ZD P x h K) : ZD P x h K' := by
 unfold ZD at q ⊢
 split at q
 ·split at q
  ·split at q
   ·split at q
    ·rename_i hc
     rw [if_pos hc]
     split at q
     ·exact hk _ _ q
     ·exact q.elim
    ·exact q.elim
   ·exact q.elim
  ·exact q.elim
 ·exact q.elim
theorem a5x {P : Program} {f : Value} {vs : List Value} {h : Heap} {K K' : Value → Heap → Prop} (hk : ∀ v h, K v h → K' v h) (q : KA P f vs h K) : KA P f vs h K' := by
 unfold KA at q ⊢
 split at q
 ·exact ADoes.mono q hk
 ·exact ⟨q.1, AYield.mono q.2 hk⟩
 ·exact q.elim
theorem aar {P : Program} {s : SelectCase} {ρ : Rho} {h : Heap} {K K' : Value → Heap → Prop} (hk : ∀ v h, K v h → K' v h) (q : JD P s ρ h K) : JD P s ρ h K' := by
 unfold JD at q ⊢
 split at q
 ·refine ⟨q.1, ?_⟩
  have q2 := q.2
  split at q2
  ·rename_i cap buf hg
   try simp only [hg]
   split at q2
   ·rename_i x hx
    split at q2
    ·rename_i v hv
     try simp only [hx, hv]
     split at q2
     ·rename_i hr; rw [if_pos hr]; exact hk _ _ q2
     ·rename_i hr; rw [if_neg hr]; exact hk _ _ q2
    ·exact q2.elim
   ·rename_i hx
    try simp only [hx]
    split at q2
    ·exact hk _ _ q2
    ·exact hk _ _ q2
  ·exact q2.elim
 ·exact q.elim
theorem yQ {P : Program} {o : Op} {ρ : Rho} {h : Heap} {K K' : Value → Heap → Prop} (hk : ∀ v h, K v h → K' v h) (q : qG P o ρ h K) : qG P o ρ h K' := by
 unfold qG at q ⊢
 split at q <;> first
  | (split at q <;> first
    | exact a6N hk q
    | exact a3b hk q
    | exact a7U hk q
    | exact a2r hk q
    | exact a5x hk q
    | exact aar hk q
    | exact hk _ _ q
    | exact q.elim
    | (split at q <;> first | exact hk _ _ q | exact q.elim))
theorem KE {P : Program} {call : Yr} (hc : uk P call) : ∀ (l : List C) {K : FX} {K' : Frm → Heap → Prop} {a : Frm} {p : PH}, (∀ a p, K a p = true → K' a p.heap) → a7H P call l K a p = true → cWp P l K' a p.heap
 | [], K, K', a, p, hk, h => hk a p h
 | c :: r, K, K', a, p, hk, h => by
  have step : ∀ a' : Frm, opX P call c.op a'.ev p (fun v p' => a7H P call r K (a'.put c.d v) p') = true → qG P c.op a'.ev p.heap (fun v h' => cWp P r K' (a'.put c.d v) h') := by
   intro a' h
   refine yQ ?_ (adi hc h)
   rintro v h' ⟨p', rfl, h2⟩
   exact KE hc r hk h2
  unfold a7H at h
  unfold cWp
  cases hg : c.g with
  | none => rw [hg] at h; exact step a h
  | some tw =>
   obtain ⟨t, want⟩ := tw
   rw [hg] at h
   simp only at h ⊢
   cases hv : zE t want a with
   | none => rw [hv] at h; cases h
   | some b =>
    rw [hv] at h
    cases b
    ·exact ⟨fun e => (by cases e), fun _ => KE hc r hk h⟩
    ·exact ⟨fun _ => step a h, fun e => (by cases e)⟩
open Go.RowKit
def JM (t : Option Tmp) (want : Bool) (a : DFrm) : Option Bool :=
 match t with
 | some t => match zf t a.l with
  | some (.p (.v (.bool b))) => some (if want then b else !b)
  | some (.tup _) => some false
  | _ => none
 | none => none
def zj (P : Program) : List C → (DFrm → List Obj → Prop) → DFrm → List Obj → Prop
 | [], K, a, L => K a L
 | c :: r, K, a, L =>
  match c.g with
  | none => zO P c.op a.ev L (fun d L' => zj P r K (a.put c.d d) L')
  | some (t, want) => zL (JM t want a) (zO P c.op a.ev L (fun d L' => zj P r K (a.put c.d d) L')) (zj P r K (a.put c.d acm) L)
def a6h (a : DFrm) : Option Tmp → Option DV
 | some t => zf t a.l
 | none => none
def Jz (P : Program) (o : Op) (ρ : Y2) (L : List Obj) : Option DV :=
 match o with
 | .load t x => match ρ x with
  | some p => jT P L t p
  | none => none
 | .call { callee := .builtin .len, args := args, argTypes := ts } => match Qp ρ args.toList, ts.toList with
  | some [x], [t] => Ue P L t x
  | _, _ => none
 | _ => none
def uV (P : Program) (c : C) (a : DFrm) (L : List Obj) : Prop :=
 (qn (Jz P c.op a.ev L) fun d => qn (yc d) fun x => qn (a6h a c.d) fun d' => qn (yc d') fun y => x = y) ∨ ∃ id off, Jz P c.op a.ev L = some (.ptr id off) ∧ a6h a c.d = some (.ptr id off)
def acE (P : Program) (c : C) (a : DFrm) (L : List Obj) : Prop :=
 match c.g with
 | none => uV P c a L
 | some (t, want) => zL (JM t want a) (uV P c a L) True
def J1 (P : Program) (a : DFrm) (L : List Obj) : List C → Prop
 | [] => True
 | c :: r => acE P c a L ∧ J1 P a L r
def a4N (P : Program) : List (C × List C) → (DFrm → List Obj → Prop) → DFrm → List Obj → Prop
 | [], K, a, L => K a L
 | (c, ks) :: r, K, a, L => zj P [c] (fun a L => J1 P a L ks ∧ a4N P r K a L) a L
structure FR (P : Program) (W0 : Ent) (γ : Pl) (L : List Obj) (h : Heap) (a : DFrm) (fa : Frm) : Prop where
 n : fa.n = a.n
 cnt : W0.cnt = a.c
 slots : ∀ t d, zf t a.l = some d → ∃ v, fa.get t = some v ∧ DR P (qe W0 γ L h) γ L h d v
section
variable {P : Program} {γ : Pl} {L : List Obj} {h : Heap} {h0 : Heap} {W0 : Ent} {a : DFrm} {fa : Frm}
theorem ahE {S : Nat → Prop} {v : Value} {d : DV} (e : uy v = some d) : qL v = true ∧ DR P S γ L h d v := by
 unfold uy at e
 split at e
 ·rename_i hs; cases e; exact ⟨aaP hs, PR.v hs⟩
 ·split at e
  ·split at e
   ·rename_i xs _ hx
    cases e
    refine ⟨by simpa [qL] using hx, ?_⟩
    have hx' : xs = #[] := by simpa using hx
    rw [hx']
    exact ⟨#[], rfl, .nil⟩
   ·cases e
  ·cases e
theorem FR.rho (hf : FR P W0 γ L h a fa) : xb P W0 γ L h a.ev fa.ev := by
 intro x d e
 cases x with
 | tmp t => exact hf.slots t d e
 | const v =>
  obtain ⟨h1, h2⟩ := ahE (P := P) (S := qe W0 γ L h) (γ := γ) (L := L) (h := h) e
  exact ⟨v, by simp [Frm.ev, h1], h2⟩
 | func f => cases e; exact ⟨_, rfl, #[], #[], rfl, .nil, .nil⟩
 | global g => cases e
theorem FR.put {γ' : Pl} {L' : List Obj} {h' : Heap} (hf : FR P W0 γ L h a fa) (c : Carry W0 γ L h γ' L' h') {d : DV} {v : Value} (hd : DR P (qe W0 γ' L' h') γ' L' h' d v) (t : Option Tmp) : FR P W0 γ' L' h' (a.put t d) (fa.put t v) := by
 cases t with
 | none => exact ⟨hf.n, hf.cnt, fun t d e => by obtain ⟨v, e1, r⟩ := hf.slots t d e; exact ⟨v, e1, c.dr r⟩⟩
 | some t =>
  unfold DFrm.put Frm.put
  rw [hf.n]
  by_cases ht : t < a.n
  ·simp only [ht, if_true]
   refine ⟨rfl, hf.cnt, fun u w e => ?_⟩
   simp only [zf] at e
   simp only [Frm.get, Km]
   by_cases hu : t = u
   ·subst hu
    simp at e ⊢
    subst e
    exact hd
   ·rw [if_neg hu] at e
    rw [if_neg (Ne.symm hu)]
    obtain ⟨v, e1, r⟩ := hf.slots u w e
    exact ⟨v, e1, c.dr r⟩
  ·simp only [ht, if_false]
   exact ⟨hf.n, hf.cnt, fun t d e => by obtain ⟨v, e1, r⟩ := hf.slots t d e; exact ⟨v, e1, c.dr r⟩⟩
theorem a6i {S : Nat → Prop} : DR P S γ L h acm undef := ⟨#[], rfl, .nil⟩
theorem a2Q (hf : FR P W0 γ L h a fa) {t : Option Tmp} {want b : Bool} (e : JM t want a = some b) : zE t want fa = some b := by
 unfold JM at e
 unfold zE
 split at e
 ·rename_i t
  split at e
  ·rename_i c hc
   cases e
   obtain ⟨v, e1, r⟩ := hf.slots _ _ hc
   have : v = .bool c := PR.scal (P := P) (S := qe W0 γ L h) (h := h) r
   subst this
   simp only [e1]
  ·rename_i xs hc
   cases e
   obtain ⟨v, e1, vs, rfl, _⟩ := hf.slots _ _ hc
   simp only [e1]
  ·cases e
 ·cases e
def Sim (P : Program) (h0 : Heap) (W0 : Ent) (K : DFrm → List Obj → Prop) (fa : Frm) (h : Heap) : Prop := ∃ a L γ, K a L ∧ Hp P h0 W0 γ L h ∧ FR P W0 γ L h a fa
theorem xp (H : Hp P h0 W0 γ L h) (hf : FR P W0 γ L h a fa) {o : Op} {d : DV} (e : Jz P o a.ev L = some d) : ∃ v, z8 P o fa.ev h = some v ∧ (DR P (qe W0 γ L h) γ L h) d v := by
 unfold Jz at e
 unfold z8
 split at e
 ·split at e
  ·rename_i p hp
   obtain ⟨v, e1, r1⟩ := hf.rho _ _ hp
   simp only [e1]
   exact Zo H r1 e
  ·cases e
 ·split at e
  ·rename_i x t hx ht
   obtain ⟨vs, e1, r1⟩ := zF hf.rho hx
   cases r1 with
   | cons hd tl =>
    cases tl
    simp only [e1, ht]
    exact U8 H hd e
  ·cases e
 ·cases e
theorem a9L (H : Hp P h0 W0 γ L h) (hf : FR P W0 γ L h a fa) {c : C} (hk : acE P c a L) : VN P c fa h := by
 have one : uV P c a L → (yq fa c.d).isSome = true ∧ z8 P c.op fa.ev h = yq fa c.d := by
  intro hk
  rcases hk with hk | ⟨id, off, e1, e3⟩
  case inr =>
   obtain ⟨v, f1, r1⟩ := xp H hf e1
   obtain ⟨b, g1, -, rfl⟩ := (show DB P (qe W0 γ L h) γ L h (.ptr id off) v from r1)
   cases hc : c.d with
   | none => rw [hc] at e3; cases e3
   | some t =>
    rw [hc] at e3
    obtain ⟨u, f2, r2⟩ := hf.slots t _ e3
    obtain ⟨b', g2, -, rfl⟩ := (show DB P (qe W0 γ L h) γ L h (.ptr id off) u from r2)
    rw [g1] at g2
    cases g2
    simp only [yq]
    rw [f1, f2]
    exact ⟨rfl, rfl⟩
  obtain ⟨d, e1, hk⟩ := qk hk
  obtain ⟨x, e2, hk⟩ := qk hk
  obtain ⟨d', e3, hk⟩ := qk hk
  obtain ⟨y, e4, rfl⟩ := qk hk
  obtain ⟨v, f1, r1⟩ := xp H hf e1
  have := jA r1 e2
  rw [this] at f1
  cases hc : c.d with
  | none => rw [hc] at e3; cases e3
  | some t =>
   rw [hc] at e3
   obtain ⟨u, f2, r2⟩ := hf.slots t d' e3
   have := jA r2 e4
   rw [this] at f2
   simp only [yq]
   rw [f1, f2]
   exact ⟨rfl, rfl⟩
 unfold acE at hk
 unfold VN
 cases hg : c.g with
 | none => simp only [hg] at hk ⊢; exact one hk
 | some p =>
  obtain ⟨t, want⟩ := p
  simp only [hg] at hk ⊢
  cases hv : JM t want a with
  | none => rw [hv] at hk; exact hk.elim
  | some b =>
   rw [hv] at hk
   cases b
   ·exact .inl (a2Q hf hv)
   ·exact .inr (one (hk.1 rfl))
abbrev DQ := Exit → DFrm → List Obj → Prop
def amu (P : Program) (h0 : Heap) (W0 : Ent) (Q : DQ) (e : Exit) (fa : Frm) (h : Heap) : Prop := Sim P h0 W0 (Q e) fa h
def DAWp (P : Program) (c : Code) (Q : DQ) (a : DFrm) (L : List Obj) : Prop :=
 ∀ h0 W0 γ h fa, Hp P h0 W0 γ L h → FR P W0 γ L h a fa → AWp P c (amu P h0 W0 Q) fa h
def JQ (K : DFrm → List Obj → Prop) (Q : DQ) : DQ
 | .normal, a, L => K a L
 | e, a, L => Q e a L
def abX (id : Nat) (Q : DQ) : DQ
 | .exit id', a, L => if id' = id then Q .normal a L else Q (.exit id') a L
 | e, a, L => Q e a L
def agA (P : Program) (x : X) (Q : DQ) (a : DFrm) (L : List Obj) : Prop := ∀ c, xOf P c .nil = x → DAWp P (.loop c) Q a L
def abv (P : Program) (x labs : X) (Q : DQ) (a : DFrm) (L : List Obj) : Prop := ∀ c, xOf P c .nil = x → Qm P c .nil .nil = labs → DAWp P (.scope c) Q a L
def aj9 (P : Program) (f : Operand) (ps : List Tmp) (c d : Code) (Q : DQ) (a : DFrm) (L : List Obj) : Prop := DAWp P (.rangeFunc f ps.toArray c d) Q a L
def xQ (o : Option DV) (A B : Prop) : Prop := match o with
 | some (.p (.v (.bool b))) => (b = true → A) ∧ (b = false → B)
 | _ => False
def KW (K : DFrm → List Obj → Prop) (a : DFrm) (L : List Obj) : Prop := ∃ l', (∀ t d, zf t l' = some d → zf t a.l = some d) ∧ K ⟨a.n, a.c, l'⟩ L
theorem FR.sub (hf : FR P W0 γ L h a fa) {l' : List (Nat × DV)} (hs : ∀ t d, zf t l' = some d → zf t a.l = some d) : FR P W0 γ L h ⟨a.n, a.c, l'⟩ fa := ⟨hf.n, hf.cnt, fun t d e => hf.slots t d (hs t d e)⟩
theorem KW.refl {K : DFrm → List Obj → Prop} {a : DFrm} {L : List Obj} (h : K a L) : KW K a L := ⟨a.l, fun _ _ e => e, h⟩
def Q8 (P : Program) : X → DQ → DFrm → List Obj → Prop
 | .nil, Q, a, L => Q .normal a L
 | .ret, Q, a, L => Q .ret a L
 | .exit id, Q, a, L => Q (.exit id) a L
 | .goto l, Q, a, L => Q (.goto l) a L
 | .bad, _, _, _ => False
 | .reg l k, Q, a, L => zj P l (KW fun a L => Q8 P k Q a L) a L
 | .draw l k, Q, a, L => a4N P l (KW fun a L => Q8 P k Q a L) a L
 | .cond c x y k, Q, a, L => xQ (a.ev c) (KW (Q8 P x (JQ (KW fun a L => Q8 P k Q a L) Q)) a L) (KW (Q8 P y (JQ (KW fun a L => Q8 P k Q a L) Q)) a L)
 | .block id x k, Q, a, L => Q8 P x (abX id (JQ (KW fun a L => Q8 P k Q a L) Q)) a L
 | .loop x k, Q, a, L => agA P x (JQ (KW fun a L => Q8 P k Q a L) Q) a L
 | .lcons _ _ _, _, _, _ => False
 | .scope x labs k, Q, a, L => abv P x labs (JQ (KW fun a L => Q8 P k Q a L) Q) a L
 | .label _ k, Q, a, L => Q8 P k Q a L
 | .range f ps x y k, Q, a, L => aj9 P f ps x y (JQ (KW fun a L => Q8 P k Q a L) Q) a L
end
def JP (P : Program) (x : X) (Q : DQ) (a : DFrm) (L : List Obj) : Prop := KW (Q8 P x Q) a L
end Go.Sim
