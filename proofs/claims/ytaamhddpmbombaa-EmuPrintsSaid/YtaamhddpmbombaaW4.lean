/- Part 4 of the claim EmuPrints: D5, D6, D7, D8, D9, D10, D11, D12, I1, I2, I3, I4, D13 -/
import Derived.Test.YtaamhddpmbombaaW3
set_option linter.unusedSimpArgs false
set_option linter.unusedVariables false
set_option linter.defProp false
noncomputable section
namespace Go.Sim
open Go.RowKit
section
variable {P : Program} {W0 : Ent} {γ : Pl} {L : List Obj} {h : Heap} {ρ : JD} {r : Rho}
def a3Y : Value → Bool
 | .pointer none => true
 | .slice none 0 0 => true
 | .map none => true
 | .nilFunc => true
 | _ => false
def Kb : DV → Option Value
 | .ptr _ _ => some (.pointer (some ⟨0, 0, none⟩))
 | .dp _ _ => some (.pointer (some ⟨0, 0, none⟩))
 | .fn f _ _ => some (.func (.func f) #[] #[])
 | .p (.sl _ (_ :: _)) => some (.slice (some ⟨0, 0, none⟩) 1 0)
 | _ => none
inductive Alike : Value → Value → Prop
 | ptr (a b : Addr) : Alike (.pointer (some a)) (.pointer (some b))
 | sl (a b : Addr) (n n' c c' : Nat) : Alike (.slice (some a) n c) (.slice (some b) n' c')
 | fn (f g : FuncId) (x x' y y' : Array Value) : Alike (.func (.func f) x y) (.func (.func g) x' y')
theorem Yl {d : DV} {v s : Value} (hd : (DR P (qd W0 γ L h) γ L h) d v) (e : Kb d = some s) : Alike s v := by
 unfold Kb at e
 split at e
 ·cases e; obtain ⟨_, _, _, rfl⟩ := hd; exact .ptr _ _
 ·cases e; obtain ⟨_, _, _, _, _, _, _, rfl, _⟩ := hd; exact .ptr _ _
 ·cases e; obtain ⟨_, _, rfl, _⟩ := hd; exact .fn _ _ _ _ _ _
 ·cases e
  cases (show PR P (qd W0 γ L h) h _ v from hd)
  exact .sl _ _ _ _ _ _
 ·cases e
theorem aal {s v y : Value} (ha : Alike s v) (hn : a3Y y = true) (d : Nat) (t : TypeId) : eqV P (d + 1) t s y = eqV P (d + 1) t v y ∧ eqV P (d + 1) t y s = eqV P (d + 1) t y v := by
 unfold a3Y at hn
 constructor <;> (split at hn <;> first | cases hn | skip) <;> cases ha <;> (unfold eqV; cases P.underlying t with
  | none => rfl
  | some q => cases q <;> rfl)
theorem UP {s v y : Value} (ha : Alike s v) (hn : a3Y y = true) (op : BinOp) (t : TypeId) : qZ P op t s y = qZ P op t v y ∧ qZ P op t y s = qZ P op t y v := by
 have h1 := aal (P := P) ha hn 9999 t
 unfold a3Y at hn
 constructor <;> (split at hn <;> first | cases hn | skip) <;> cases ha <;> cases op <;> simp only [qZ] <;> first | rfl | rw [h1.1] | rw [h1.2]
def wB (P : Program) (op : BinOp) (t : TypeId) (a b : DV) : Option DV :=
 match wp a, wp b with
 | some x, some y => scD (qZ P op t x y)
 | none, some y => if a3Y y then match Kb a with
   | some x => scD (qZ P op t x y)
   | none => none
  else none
 | some x, none => if a3Y x then match Kb b with
   | some y => scD (qZ P op t x y)
   | none => none
  else none
 | none, none => none
theorem a7O {op : BinOp} {t : TypeId} {a b d : DV} {u w : Value} (ha : (DR P (qd W0 γ L h) γ L h) a u) (hb : (DR P (qd W0 γ L h) γ L h) b w) (e : wB P op t a b = some d) : ∃ v, qZ P op t u w = some v ∧ (DR P (qd W0 γ L h) γ L h) d v := by
 unfold wB at e
 cases h1 : wp a with
 | some x =>
  have := kS ha h1; subst this
  cases h2 : wp b with
  | some y =>
   have := kS hb h2; subst this
   rw [h1, h2] at e
   exact jx e
  | none =>
   rw [h1, h2] at e
   simp only at e
   split at e
   ·rename_i hn
    cases h3 : Kb b with
    | none => rw [h3] at e; cases e
    | some y =>
     rw [h3] at e
     rw [← (UP (Yl hb h3) hn op t).2]
     exact jx e
   ·cases e
 | none =>
  cases h2 : wp b with
  | none => rw [h1, h2] at e; cases e
  | some y =>
   have := kS hb h2; subst this
   rw [h1, h2] at e
   simp only at e
   split at e
   ·rename_i hn
    cases h3 : Kb a with
    | none => rw [h3] at e; cases e
    | some x =>
     rw [h3] at e
     rw [← (UP (Yl ha h3) hn op t).1]
     exact jx e
   ·cases e
def kq : List DV → Nat → List DV → List DV
 | cs, _, [] => cs
 | cs, i, v :: r => kq (cs.set i v) (i + 1) r
theorem yD {R : DV → Value → Prop} : ∀ {ys : List DV} {ws : List Value} {cs : List DV} {vs : List Value} {i : Nat}, All2 R cs vs → All2 R ys ws → All2 R (kq cs i ys) (qL vs i ws)
 | [], _, cs, vs, i, h1, .nil => h1
 | y :: ys, w :: ws, cs, vs, i, h1, .cons hy t => by unfold kq qL; exact yD (h1.set hy i) t
def WK (P : Program) (t : TypeId) : Option (Nat → Option (Nat × Nat)) :=
 match P.underlying t with
 | some (.struct fs) => (fs.toList.mapM (fun f => (P.info? f.type).map fun i => (f.offset, i.size))).map fun l i => l[i]?
 | some (.array _ e) => (P.info? e).map fun ie i => some (i * ie.size, ie.size)
 | _ => none
def JK (P : Program) (t : TypeId) : Option (List DV) := match qT P t with
 | some z => if z.all scal then some (z.map fun v => .p (.v v)) else none
 | none => none
theorem a9q {S : Nat → Prop} {z : List Value} (hz : z.all scal = true) : All2 (DC P S γ L h) (z.map fun v => .p (.v v)) z := by
 induction z with
 | nil => exact .nil
 | cons v z ih =>
  simp only [List.all_cons, Bool.and_eq_true] at hz
  exact .cons (PR.v hz.1) (ih hz.2)
theorem Ql {S : Nat → Prop} {t : TypeId} {ds : List DV} (e : JK P t = some ds) : ∃ z, qT P t = some z ∧ All2 (DC P S γ L h) ds z := by
 unfold JK at e
 split at e
 ·split at e
  ·rename_i z hz hs; cases e; exact ⟨z, hz, a9q hs⟩
  ·cases e
 ·cases e
def JS (place : Nat → Option (Nat × Nat)) (cells : List DV) : List (Nat × DV) → Option (List DV)
 | [] => some cells
 | (i, v) :: r => match place i with
  | none => none
  | some (off, sz) => if is1 v = true ∧ (zl v).length = sz ∧ off + sz ≤ cells.length then JS place (kq cells off (zl v)) r else none
theorem xO {place : Nat → Option (Nat × Nat)} : ∀ {ps : List (Nat × DV)} {qs : List (Nat × Value)} {cs xs : List DV} {vs : List Value}, All2 (DC P (qd W0 γ L h) γ L h) cs vs → All2 (fun d v => d.1 = v.1 ∧ (DR P (qd W0 γ L h) γ L h) d.2 v.2) ps qs → JS place cs ps = some xs →
  ∃ ws, yY place vs qs = some ws ∧ All2 (DC P (qd W0 γ L h) γ L h) xs ws
 | [], _, cs, xs, vs, h1, .nil, e => by cases e; exact ⟨vs, rfl, h1⟩
 | (i, d) :: ps, _, cs, xs, vs, h1, .cons (b := (j, v)) hd t, e => by
  obtain ⟨rfl, hd⟩ := hd
  unfold JS at e
  unfold yY
  cases hp : place i with
  | none => rw [hp] at e; cases e
  | some q =>
   obtain ⟨off, sz⟩ := q
   simp only [hp] at e ⊢
   split at e
   ·rename_i hc
    have h2 := (Ka (wn hd hc.1)).1
    have h3 : v.cells.size = sz := by have := h2.length; rw [← hc.2.1, this]; simp
    rw [if_pos ⟨h3, by rw [← h1.length]; exact hc.2.2⟩]
    exact xO (yD h1 h2) t e
   ·cases e
def Ji (P : Program) (t : TypeId) (ps : List (Nat × DV)) : Option DV :=
 match WK P t, JK P t with
 | some pl, some z => if Wb P t then (JS pl z ps).map .agg else none
 | _, _ => none
theorem Uh {t : TypeId} {pl : Nat → Option (Nat × Nat)} {z : List Value} {ps : List (Nat × Value)} (hp : WK P t = some pl) (hz : qT P t = some z) (ho : Wb P t = true) :
  QH P t ps = (yY pl z ps).map fun l => .agg l.toArray := by
 obtain ⟨i, zv, h1, h2, _, h3, _⟩ := j0 hz
 first | subst h3 | (rw [← h3])
 unfold WK at hp
 split at hp
 ·rename_i fs hu
  cases hm : fs.toList.mapM (fun f => (P.info? f.type).map fun i => (f.offset, i.size)) with
  | none => rw [hm] at hp; cases hp
  | some l =>
   rw [hm] at hp; cases hp
   exact a2K hu ho h1 h2 hm
 ·rename_i n e hu
  cases hm : P.info? e with
  | none => rw [hm] at hp; cases hp
  | some ie =>
   rw [hm] at hp; cases hp
   exact a2U hu ho h1 h2 hm
 ·cases hp
theorem a2p {t : TypeId} {ps : List (Nat × DV)} {qs : List (Nat × Value)} {d : DV} (hr : All2 (fun d v => d.1 = v.1 ∧ (DR P (qd W0 γ L h) γ L h) d.2 v.2) ps qs) (e : Ji P t ps = some d) : ∃ v, QH P t qs = some v ∧ (DR P (qd W0 γ L h) γ L h) d v := by
 unfold Ji at e
 split at e
 ·rename_i pl z hp hz
  split at e
  ·rename_i ho
   obtain ⟨zv, h1, h2⟩ := Ql (P := P) (γ := γ) (L := L) (h := h) (S := qd W0 γ L h) hz
   cases hf : JS pl z ps with
   | none => rw [hf] at e; cases e
   | some xs =>
    rw [hf] at e; cases e
    obtain ⟨ws, h3, h4⟩ := xO h2 hr hf
    rw [Uh hp h1 ho, h3]
    exact ⟨_, rfl, _, rfl, by simpa using h4⟩
  ·cases e
 ·cases e
def Jw (P : Program) (t : TypeId) (x : DV) (f : Nat) : Option DV :=
 match P.underlying t, x with
 | some (.struct fs), .agg cs => match fs[f]? with
  | some fd => ye P fd.type cs fd.offset
  | none => none
 | _, _ => none
theorem a25 {t : TypeId} {x d : DV} {v : Value} {f : Nat} (hx : (DR P (qd W0 γ L h) γ L h) x v) (e : Jw P t x f = some d) : ∃ u, Wj P t v f = some u ∧ (DR P (qd W0 γ L h) γ L h) d u := by
 unfold Jw at e
 split at e
 ·rename_i fs cs hu
  obtain ⟨vs, rfl, h1⟩ := hx
  unfold Wj
  simp only [hu]
  cases hf : fs[f]? with
  | none => rw [hf] at e; cases e
  | some fd =>
   simp only [hf] at e
   obtain ⟨v, e1, h2⟩ := ya h1 e
   exact ⟨v, e1, jl h2⟩
 ·cases e
def afk (P : Program) (t : TypeId) (f : Nat) : Option Nat :=
 match P.underlying t with
 | some (.struct fs) => match fs[f]? with
  | some fd => match szT P fd.type with
   | some n => if n = 0 then none else some fd.offset
   | none => none
  | none => none
 | _ => none
theorem uU {t : TypeId} {f k : Nat} (e : afk P t f = some k) (b o : Nat) : jh P t (.pointer (some ⟨b, o, none⟩)) f = some (.pointer (some ⟨b, o + k, none⟩)) := by
 unfold afk at e
 unfold jh
 split at e
 ·rename_i fs hu
  simp only [hu]
  split at e
  ·rename_i fd hf
   simp only [hf]
   split at e
   ·rename_i n hn
    simp only [hn]
    split at e
    ·cases e
    ·rename_i h0; cases e; rw [if_neg h0]
   ·cases e
  ·cases e
 ·cases e
def zG (L : List Obj) (id tot : Nat) : Option (List (List PV)) :=
 match L[id]? with
 | some (.li _ rows) => if rows.length = tot then some rows else none
 | some (.fz _ rows) => if rows.length = tot then some rows else none
 | _ => none
theorem kN {id tot : Nat} {rows : List (List PV)} (e : zG L id tot = some rows) : ∃ o, L[id]? = some o ∧ o.isList rows ∧ rows.length = tot := by
 unfold zG at e
 split at e
 ·rename_i hh; split at e
  ·cases e; exact ⟨_, hh, rfl, by assumption⟩
  ·cases e
 ·rename_i hh; split at e
  ·cases e; exact ⟨_, hh, rfl, by assumption⟩
  ·cases e
 ·cases e
theorem Hp.width {h0 : Heap} (H : Hp P h0 W0 γ L h) {id : Nat} {o : Obj} {rows : List (List PV)} (e : L[id]? = some o) (hl : o.isList rows) : ∃ z, ∀ r ∈ rows, r.length = z := by
 have ho := H.obj id o e
 cases o with
 | li t rs =>
  cases hl
  cases t with
  | none => obtain ⟨h1, _⟩ := ho; exact ⟨0, by rw [h1]; simp⟩
  | some t => obtain ⟨_, _, _, _, z, _, _, _, _, _, h1, _⟩ := ho; exact ⟨z, h1⟩
 | fz t rs =>
  cases hl
  cases t with
  | none => obtain ⟨h1, _⟩ := ho; exact ⟨0, by rw [h1]; simp⟩
  | some t => obtain ⟨_, _, _, _, _, z, _, _, _, _, _, h1, _⟩ := ho; exact ⟨z, h1⟩
 | st c => exact hl.elim
 | mp c => exact hl.elim
 | dead => exact hl.elim
def onD (L : List Obj) (k : Nat) : DV → Option DV
 | .ptr id off => some (.ptr id (off + k))
 | .ep id i off tot => match zG L id tot with
  | some _ => some (.ep id i (off + k) tot)
  | none => none
 | .dp row off => some (.dp row (off + k))
 | _ => none
theorem aj1 {h0 : Heap} (H : Hp P h0 W0 γ L h) {id i off tot k : Nat} {v : Value} {rows : List (List PV)} (hx : (DR P (qd W0 γ L h) γ L h) (.ep id i off tot) v) (e : zG L id tot = some rows) :
  ∃ b o, v = .pointer (some ⟨b, o, none⟩) ∧ (DR P (qd W0 γ L h) γ L h) (.ep id i (off + k) tot) (.pointer (some ⟨b, o + k, none⟩)) := by
 obtain ⟨q, h1, h2, h3⟩ := kN e
 obtain ⟨z, hz⟩ := H.width h1 h2
 obtain ⟨k1, k2, k3⟩ := hx
 obtain ⟨k4, k5⟩ := k3 q rows h1 h2
 obtain ⟨k6, k7⟩ := k5 h3
 obtain ⟨b, o, g, rfl⟩ := k7 z hz
 refine ⟨b, _, rfl, k1, rfl, fun q' rows' e1 e2 => ?_⟩
 obtain ⟨m4, m5⟩ := k3 q' rows' e1 e2
 refine ⟨m4, fun e3 => ?_⟩
 obtain ⟨m6, m7⟩ := m5 e3
 refine ⟨m6, fun z' hz' => ?_⟩
 obtain ⟨b', o', g', e'⟩ := m7 z' hz'
 rw [g] at g'
 cases g'
 refine ⟨b, o, g, ?_⟩
 have e2 : o + i * z + off = o + i * z' + off := by
  simp only [Value.pointer.injEq, Option.some.injEq, Addr.mk.injEq, true_and, and_true] at e'
  exact e'
 rw [show o + i * z + off + k = o + i * z' + (off + k) by omega]
theorem xe {h0 : Heap} (H : Hp P h0 W0 γ L h) {x d : DV} {v : Value} {k : Nat} (hx : (DR P (qd W0 γ L h) γ L h) x v) (e : onD L k x = some d) : ∃ b o, v = .pointer (some ⟨b, o, none⟩) ∧ (DR P (qd W0 γ L h) γ L h) d (.pointer (some ⟨b, o + k, none⟩)) := by
 unfold onD at e
 split at e
 ·cases e
  obtain ⟨b, h1, h2, rfl⟩ := hx
  exact ⟨b, _, rfl, b, h1, h2, rfl⟩
 ·split at e
  ·rename_i rows hr
   cases e
   exact aj1 H hx hr
  ·cases e
 ·cases e
  obtain ⟨b, o, cs, e, rw, h1, h2, rfl, h3⟩ := hx
  exact ⟨b, _, rfl, b, o, cs, e, rw, h1, h2, by rw [Nat.add_assoc], h3⟩
 ·cases e
def yb (P : Program) (L : List Obj) (t : TypeId) (x : DV) (f : Nat) : Option DV := match afk P t f with
 | some k => onD L k x
 | none => none
theorem v7 {h0 : Heap} (H : Hp P h0 W0 γ L h) {t : TypeId} {x d : DV} {v : Value} {f : Nat} (hx : (DR P (qd W0 γ L h) γ L h) x v) (e : yb P L t x f = some d) : ∃ u, jh P t v f = some u ∧ (DR P (qd W0 γ L h) γ L h) d u := by
 unfold yb at e
 split at e
 ·rename_i k hk
  obtain ⟨b, o, rfl, h1⟩ := xe H hx e
  exact ⟨_, uU hk b o, h1⟩
 ·cases e
end
open Go.RowKit
section
variable {P : Program} {γ : Pl} {L : List Obj} {h : Heap} {h0 : Heap} {W0 : Ent}
theorem a4I {S : Nat → Prop} {row : List PV} {cs : List Value} {o : Nat} (hl : o + row.length ≤ cs.length) (hr : ∀ (j : Nat) (x : PV) (u : Value), row[j]? = some x → cs[o + j]? = some u → PR P S h x u) :
  All2 (DC P S γ L h) (row.map .p) ((cs.drop o).take row.length) := by
 refine All2.of_get (by simp; omega) fun j d u e1 e2 => ?_
 rw [List.getElem?_map] at e1
 cases hx : row[j]? with
 | none => rw [hx] at e1; cases e1
 | some x =>
  rw [hx] at e1; cases e1
  rw [List.getElem?_take] at e2
  split at e2
  ·rw [List.getElem?_drop] at e2; exact hr j x u hx e2
  ·cases e2
theorem a8Q {t : TypeId} {cs : List Value} {o n off : Nat} {v : Value} (hl : o + n ≤ cs.length) (e : wy P t ((cs.drop o).take n) off = some v) : wy P t cs (o + off) = some v := by
 unfold wy at e ⊢
 cases hu : P.underlying t with
 | none => simp [hu] at e
 | some q =>
  simp only [hu] at e ⊢
  by_cases ha : U2 P t = true
  ·simp only [ha, if_true] at e ⊢
   cases hs : szT P t with
   | none => simp [hs] at e
   | some k =>
    simp only [hs] at e ⊢
    split at e
    ·rename_i hk
     simp at hk
     rw [if_pos (by omega), ← e]
     congr 2
     rw [List.drop_take, List.take_take, List.drop_drop, Nat.min_eq_left (by omega)]
    ·cases e
  ·simp only [ha] at e ⊢
   simp only [Bool.false_eq_true, if_false] at e ⊢
   rw [List.getElem?_take] at e
   split at e
   ·rw [List.getElem?_drop] at e; exact e
   ·cases e
def aec (d : DV) : Option Int := match d with
 | .p (.v (.int _ n)) => some n
 | _ => none
theorem Wl {d : DV} {v : Value} {n : Int} (hd : (DR P (qd W0 γ L h) γ L h) d v) (e : aec d = some n) : ∃ k, v = .int k n := by
 unfold aec at e
 split at e
 ·rename_i k m
  cases e
  exact ⟨k, PR.scal (P := P) (S := qd W0 γ L h) (h := h) hd⟩
 ·cases e
def jV (P : Program) (L : List Obj) (t : TypeId) (x i : DV) : Option DV :=
 match aec i with
 | none => none
 | some n => if 0 ≤ n then
   match P.underlying t with
   | some (.slice e) => match szT P e with
    | some s => match x with
     | .p (.sl z rows) => if z = s then match rows[n.toNat]? with
       | some row => some (.dp row 0)
       | none => none
      else none
     | .ref id lo m tot => match zG L id tot with
      | some rows => if n.toNat < m then match rows[lo + n.toNat]? with
        | some row => if row.length = s then some (.ep id (lo + n.toNat) 0 tot) else none
        | none => none
       else none
      | none => none
     | .aref id off m => if n.toNat < m then some (.ptr id (off + n.toNat * s)) else none
     | _ => none
    | none => none
   | some (.array len e) => match szT P e with
    | some s => if n.toNat < len then onD L (n.toNat * s) x else none
    | none => none
   | _ => none
  else none
theorem YX (H : Hp P h0 W0 γ L h) {t : TypeId} {x i d : DV} {v w : Value} (hx : (DR P (qd W0 γ L h) γ L h) x v) (hi : (DR P (qd W0 γ L h) γ L h) i w) (e : jV P L t x i = some d) : ∃ u, ky P t v w = some u ∧ (DR P (qd W0 γ L h) γ L h) d u := by
 unfold jV at e
 split at e
 ·cases e
 rename_i n hn
 obtain ⟨k, rfl⟩ := Wl hi hn
 split at e
 case isFalse => cases e
 rename_i h0n
 split at e
 ·rename_i t' hu
  split at e
  case h_2 => cases e
  rename_i s hs
  split at e
  ·rename_i z rows
   split at e
   case isFalse => cases e
   rename_i hz
   subst hz
   split at e
   case h_2 => cases e
   rename_i row hrow
   cases e
   have hlt : n.toNat < rows.length := (List.getElem?_eq_some_iff.1 hrow).1
   cases (show PR P (qd W0 γ L h) h _ v from hx) with
   | nil => simp at hlt
   | dud => simp at hlt
   | zero => simp at hlt
   | sl hS hb h0 hl hz hr hc hm =>
    rename_i b o c cs te rw
    rw [yh hu hs, if_pos (by omega)]
    refine ⟨_, rfl, b, o + n.toNat * z, cs, te, rw, hS, hb, rfl, ?_, fun j x u e1 e2 => hr n.toNat row j x u hrow e1 e2⟩
    rw [hz _ _ hrow]
    have : (n.toNat + 1) * z ≤ rows.length * z := Nat.mul_le_mul_right _ hlt
    rw [Nat.succ_mul] at this
    omega
  ·rename_i id lo m tot
   split at e
   case h_2 => cases e
   rename_i rows hro
   split at e
   case isFalse => cases e
   rename_i hm
   split at e
   case h_2 => cases e
   rename_i row hrow
   split at e
   case isFalse => cases e
   rename_i hsz
   cases e
   obtain ⟨q, q1, q2, q3⟩ := kN hro
   obtain ⟨z, hz⟩ := H.width q1 q2
   have hzs : z = s := by rw [← hz row (List.mem_of_getElem? hrow)]; exact hsz
   subst hzs
   obtain ⟨k1, k2, k3⟩ := hx
   obtain ⟨k4, k5⟩ := k3 q rows q1 q2
   obtain ⟨k6, k7⟩ := k5 q3
   rcases k7 z hz with ⟨_, h1, h2⟩ | ⟨b, o, c, rfl, h1, h2⟩ | ⟨b, o, c, g, rfl, h1⟩
   ·omega
   ·omega
   ·rw [yh hu hs, if_pos (by omega)]
    have hadd : o + lo * z + n.toNat * z = o + (lo + n.toNat) * z + 0 := by rw [Nat.add_mul]; omega
    rw [hadd]
    refine ⟨_, rfl, k1, rfl, fun q' rows' e1 e2 => ?_⟩
    obtain ⟨m4, m5⟩ := k3 q' rows' e1 e2
    refine ⟨m4, fun e3 => ?_⟩
    obtain ⟨m6, m7⟩ := m5 e3
    refine ⟨by omega, fun z' hz' => ?_⟩
    have hro' : rows' = rows := by
     rw [q1] at e1; cases e1
     cases q <;> first | (cases q2; cases e2; rfl) | exact q2.elim
    subst hro'
    have hzz : z' = z := by rw [← hz row (List.mem_of_getElem? hrow), hz' row (List.mem_of_getElem? hrow)]
    subst hzz
    exact ⟨b, o, g, rfl⟩
  ·rename_i id off m
   split at e
   case isFalse => cases e
   rename_i hm
   cases e
   obtain ⟨b, h1, h2, rfl⟩ := hx
   rw [yh hu hs, if_pos (by omega)]
   exact ⟨_, rfl, b, h1, h2, rfl⟩
  ·cases e
 ·rename_i len t' hu
  split at e
  case h_2 => cases e
  rename_i s hs
  split at e
  case isFalse => cases e
  rename_i hlen
  obtain ⟨b, o, rfl, h1⟩ := xe H hx e
  rw [Vl hu hs, if_pos (by omega)]
  exact ⟨_, rfl, h1⟩
 ·cases e
def jv (P : Program) (L : List Obj) (t : TypeId) (x : DV) : Option DV :=
 match x with
 | .ptr id off => match L[id]? with
  | some (.st cells) => ye P t cells off
  | _ => none
 | .ep id i off tot => match zG L id tot with
  | some rows => match rows[i]? with
   | some row => ye P t (row.map .p) off
   | none => none
  | none => none
 | .dp row off => ye P t (row.map .p) off
 | _ => none
theorem Qo (H : Hp P h0 W0 γ L h) {t : TypeId} {x d : DV} {v : Value} (hx : (DR P (qd W0 γ L h) γ L h) x v) (e : jv P L t x = some d) : ∃ u, kJ P t h v = some u ∧ (DR P (qd W0 γ L h) γ L h) d u := by
 unfold jv at e
 split at e
 ·rename_i id off
  split at e
  ·rename_i cells hc
   obtain ⟨b, h1, h2, rfl⟩ := hx
   obtain ⟨b', te, vs, g1, g2, g3⟩ := H.obj id _ hc
   rw [h1] at g1; cases g1
   obtain ⟨u, e1, r1⟩ := ya g3 e
   exact ⟨u, by simp only [kJ, V7, g2]; exact e1, jl r1⟩
  ·cases e
 ·rename_i id i off tot
  split at e
  case h_2 => cases e
  rename_i rows hro
  split at e
  case h_2 => cases e
  rename_i row hrow
  obtain ⟨q, q1, q2, q3⟩ := kN hro
  obtain ⟨z, hz⟩ := H.width q1 q2
  obtain ⟨k1, k2, k3⟩ := hx
  obtain ⟨k4, k5⟩ := k3 q rows q1 q2
  obtain ⟨k6, k7⟩ := k5 q3
  obtain ⟨b, o, g, rfl⟩ := k7 z hz
  have hR : ∃ te, Rows P (qd W0 γ L h) h b o te rows := by
   have ho := H.obj id q q1
   cases q with
   | li te rs =>
    cases q2
    cases te with
    | none => rw [ho.2] at g; cases g
    | some te => obtain ⟨b', o', g', hR⟩ := ho; rw [g] at g'; cases g'; exact ⟨te, hR⟩
   | fz te rs =>
    cases q2
    cases te with
    | none => rw [ho.2] at g; cases g
    | some te => obtain ⟨b', o', g', _, hR⟩ := ho; rw [g] at g'; cases g'; exact ⟨te, hR⟩
   | st c => exact q2.elim
   | mp => exact q2.elim
   | dead => exact q2.elim
  obtain ⟨te, cs, z', r1, r2, r3, r4, r5, r6, r7⟩ := hR
  have hzz : z' = z := by rw [← hz row (List.mem_of_getElem? hrow), r6 row (List.mem_of_getElem? hrow)]
  subst hzz
  have hil : i < rows.length := (List.getElem?_eq_some_iff.1 hrow).1
  have hmul : (i + 1) * z' ≤ rows.length * z' := Nat.mul_le_mul_right _ hil
  rw [Nat.succ_mul] at hmul
  have hrl := r6 row (List.mem_of_getElem? hrow)
  have h2 := a4I (P := P) (γ := γ) (L := L) (S := qd W0 γ L h) (row := row) (cs := cs) (o := o + i * z') (by omega) (fun j x u e1 e2 => r7 i row j x u hrow e1 e2)
  obtain ⟨u, e1, rr⟩ := ya h2 e
  exact ⟨u, by simp only [kJ, V7, r1]; exact a8Q (by omega) e1, jl rr⟩
 ·rename_i row off
  obtain ⟨b, o, cs, te, rw, h1, h2, rfl, h3, h4⟩ := hx
  obtain ⟨u, e1, rr⟩ := ya (a4I h3 h4) e
  exact ⟨u, by simp only [kJ, V7, h2]; exact a8Q h3 e1, jl rr⟩
 ·cases e
end
open Go.RowKit
theorem Qw : ∀ (vs cs : List Value) (i m : Nat), i + vs.length ≤ cs.length → (qL cs i vs)[m]? = if i ≤ m ∧ m < i + vs.length then vs[m - i]? else cs[m]?
 | [], cs, i, m, _ => by rw [if_neg (by simp only [List.length_nil]; omega)]; rfl
 | v :: r, cs, i, m, hl => by
  rw [qL, Qw r _ _ _ (by simp only [List.length_cons, List.length_set] at hl ⊢; omega)]
  simp only [List.length_cons] at hl ⊢
  by_cases h1 : i + 1 ≤ m ∧ m < i + 1 + r.length
  ·rw [if_pos h1, if_pos (by omega), show m - i = (m - (i + 1)) + 1 by omega, List.getElem?_cons_succ]
  ·rw [if_neg h1]
   by_cases h2 : m = i
   ·subst h2
    rw [if_pos (by omega), Nat.sub_self, List.getElem?_cons_zero, List.getElem?_set_self (by omega)]
   ·rw [if_neg (by omega), List.getElem?_set_ne (Ne.symm h2)]
def kK : List PV → Nat → List PV → List PV
 | cs, _, [] => cs
 | cs, i, v :: r => kK (cs.set i v) (i + 1) r
@[simp] theorem Vj : ∀ (ys cs : List PV) (i : Nat), (kK cs i ys).length = cs.length
  | [], _, _ => rfl
  | v :: r, cs, i => by rw [kK, Vj r]; simp
theorem WZ : ∀ (vs cs : List PV) (i m : Nat), i + vs.length ≤ cs.length → (kK cs i vs)[m]? = if i ≤ m ∧ m < i + vs.length then vs[m - i]? else cs[m]?
 | [], cs, i, m, _ => by rw [if_neg (by simp only [List.length_nil]; omega)]; rfl
 | v :: r, cs, i, m, hl => by
  rw [kK, WZ r _ _ _ (by simp only [List.length_cons, List.length_set] at hl ⊢; omega)]
  simp only [List.length_cons] at hl ⊢
  by_cases h1 : i + 1 ≤ m ∧ m < i + 1 + r.length
  ·rw [if_pos h1, if_pos (by omega), show m - i = (m - (i + 1)) + 1 by omega, List.getElem?_cons_succ]
  ·rw [if_neg h1]
   by_cases h2 : m = i
   ·subst h2
    rw [if_pos (by omega), Nat.sub_self, List.getElem?_cons_zero, List.getElem?_set_self (by omega)]
   ·rw [if_neg (by omega), List.getElem?_set_ne (Ne.symm h2)]
def pvs : List DV → Option (List PV)
 | [] => some []
 | .p x :: l => (pvs l).map (x :: ·)
 | _ :: _ => none
section
variable {P : Program} {γ : Pl} {L : List Obj} {h : Heap} {h0 : Heap} {W0 : Ent}
theorem yF {S : Nat → Prop} : ∀ {ds : List DV} {vs : List Value} {xs : List PV}, All2 (DC P S γ L h) ds vs → pvs ds = some xs → All2 (PR P S h) xs vs
 | [], _, _, .nil, e => by cases e; exact .nil
 | d :: ds, _, _, .cons hd t, e => by
  unfold pvs at e
  split at e
  ·rename_i heq; cases heq
  ·rename_i x l heq
   cases heq
   cases hq : pvs ds with
   | none => rw [hq] at e; cases e
   | some ys => rw [hq] at e; cases e; exact .cons hd (yF t hq)
  ·cases e
def ZR (P : Program) (L : List Obj) (t : TypeId) (p x : DV) : Option (List Obj) :=
 match p with
 | .ptr id off => match L[id]? with
  | some (.st cells) => if is1 x = true ∧ szT P t = some (zl x).length ∧ off + (zl x).length ≤ cells.length then some (L.set id (.st (kq cells off (zl x)))) else none
  | _ => none
 | .ep id i off tot => match L[id]? with
  | some (.li te rows) => if rows.length = tot then match rows[i]? with
    | some row => if is1 x = true then match pvs (zl x) with
      | some ps => if szT P t = some ps.length ∧ off + ps.length ≤ row.length then some (L.set id (.li te (rows.set i (kK row off ps)))) else none
      | none => none
     else none
    | none => none
   else none
  | _ => none
 | _ => none
theorem a5l (H : Hp P h0 W0 γ L h) {id b : Nat} {cells cells' : List DV} {vs vs' : List Value} {te : TypeId} (hi : L[id]? = some (.st cells)) (hg : γ id = some (b, 0)) (hb : h.get b = some (.cells vs te true)) (hr : All2 (DC P (qd W0 γ L h) γ L h) cells' vs') :
  Hp P h0 W0 γ (L.set id (.st cells')) (h.set b (.cells vs' te true)) ∧ Carry W0 γ L h γ (L.set id (.st cells')) (h.set b (.cells vs' te true)) := by
 have hget : ∀ b', b' < h.next → (∀ x, γ id ≠ some (b', x)) → (h.set b (.cells vs' te true)).get b' = h.get b' := fun b' _ hx => Heap.get_set_ne _ _ (by rintro rfl; exact hx 0 hg)
 have c := w8 (W0 := W0) (h := h) (γ' := γ) (h' := h.set b (.cells vs' te true)) (o' := .st cells') hi (.inl rfl) (fun _ _ => rfl) (fun c _ => ⟨rfl, _, rfl⟩) (fun rows' hl => hl.elim) (Nat.le_refl _) (fun b x e _ => .inl e) hget
 refine ⟨H.write hi (.inl rfl) c (fun _ _ => rfl) (Nat.le_refl _) (fun b x e => .inl ⟨x, e⟩) (fun x e => H.dom _ _ e) hget ?_, c⟩
 exact ⟨b, te, vs', hg, Heap.get_set_self hb, hr.mono fun _ _ => c.dc⟩
theorem a4u (H : Hp P h0 W0 γ L h) {id b o : Nat} {rows rows' : List (List PV)} {cs cs' : List Value} {te : TypeId} {z : Nat} (hi : L[id]? = some (.li (some te) rows)) (hg : γ id = some (b, o)) (hb : h.get b = some (.cells cs te true))
  (hlen : rows'.length = rows.length) (hw : ∀ r ∈ rows, r.length = z) (hw' : ∀ r ∈ rows', r.length = z) (hz : szT P te = some z) (h0z : 0 < z) (hl : o + rows.length * z ≤ cs'.length) (hm : rows.length ≤ maxLen)
  (hr : ∀ (i : Nat) (r : List PV) (j : Nat) (x : PV) (u : Value), rows'[i]? = some r → r[j]? = some x → cs'[o + i * z + j]? = some u → PR P (qd W0 γ L h) h x u) :
  Hp P h0 W0 γ (L.set id (.li (some te) rows')) (h.set b (.cells cs' te true)) ∧ Carry W0 γ L h γ (L.set id (.li (some te) rows')) (h.set b (.cells cs' te true)) := by
 have hget : ∀ b', b' < h.next → (∀ x, γ id ≠ some (b', x)) → (h.set b (.cells cs' te true)).get b' = h.get b' := fun b' _ hx => Heap.get_set_ne _ _ (by rintro rfl; exact hx o hg)
 have c := w8 (W0 := W0) (h := h) (γ' := γ) (h' := h.set b (.cells cs' te true)) (o' := .li (some te) rows') hi (.inl rfl) (fun _ _ => rfl) (fun c e => (by cases e))
  (fun r' hl' => ⟨rows, rfl, by cases hl'; omega, fun _ => ⟨rfl, fun z' hz' r hr' => by
   cases hl'
   rw [hw r hr']
   have hne : 0 < rows.length := List.length_pos_of_mem hr'
   have h1 : rows'[0]'(by omega) ∈ rows' := List.getElem_mem _
   rw [← hz' _ h1, hw' _ h1]⟩⟩) (Nat.le_refl _) (fun b x e _ => .inl e) hget
 refine ⟨H.write hi (.inl rfl) c (fun _ _ => rfl) (Nat.le_refl _) (fun b x e => .inl ⟨x, e⟩) (fun x e => H.dom _ _ e) hget ?_, c⟩
 exact ⟨b, o, hg, cs', z, Heap.get_set_self hb, hz, h0z, by rw [hlen]; exact hl, by rw [hlen]; exact hm, hw', fun i r j x u e1 e2 e3 => c.pr (hr i r j x u e1 e2 e3)⟩
theorem Zs (H : Hp P h0 W0 γ L h) {t : TypeId} {p x : DV} {v u : Value} {L' : List Obj} (hp : (DR P (qd W0 γ L h) γ L h) p v) (hx : (DR P (qd W0 γ L h) γ L h) x u) (e : ZR P L t p x = some L') :
  ∃ h', wm P t h v u = some h' ∧ Hp P h0 W0 γ L' h' ∧ Carry W0 γ L h γ L' h' := by
 unfold ZR at e
 split at e
 ·rename_i id off
  split at e
  case h_2 => cases e
  rename_i cells hc
  split at e
  case isFalse => cases e
  rename_i hcond
  obtain ⟨k1, k2, k3⟩ := hcond
  cases e
  obtain ⟨b, h1, _, rfl⟩ := hp
  obtain ⟨b', te, vs, g1, g2, g3⟩ := H.obj id _ hc
  rw [h1] at g1; cases g1
  obtain ⟨q1, q2⟩ := Ka (wn hx k1)
  have hsz : u.cells.size = (zl x).length := by rw [q1.length]; simp
  refine ⟨_, ?_, a5l H hc h1 g2 (yD g3 q1)⟩
  simp only [wm, g2]
  rw [if_pos ⟨by rw [hsz]; exact k2, by rw [hsz, ← g3.length]; exact k3, q2⟩]
 ·rename_i id i off tot
  split at e
  case h_2 => cases e
  rename_i te rows hc
  split at e
  case isFalse => cases e
  rename_i htot
  split at e
  case h_2 => cases e
  rename_i row hrow
  split at e
  case isFalse => cases e
  rename_i k1
  split at e
  case h_2 => cases e
  rename_i ps hps
  split at e
  case isFalse => cases e
  rename_i hcond
  obtain ⟨k2, k3⟩ := hcond
  cases e
  have hil : i < rows.length := (List.getElem?_eq_some_iff.1 hrow).1
  have ho := H.obj id _ hc
  cases te with
  | none => obtain ⟨h1, _⟩ := ho; rw [h1] at hil; simp at hil
  | some te =>
   obtain ⟨b, o, hg, cs, z, r1, r2, r3, r4, r5, r6, r7⟩ := ho
   obtain ⟨m1, m2, m3⟩ := hp
   obtain ⟨m4, m5⟩ := m3 _ rows hc rfl
   obtain ⟨m6, m7⟩ := m5 htot
   obtain ⟨b', o', g', rfl⟩ := m7 z r6
   rw [hg] at g'; cases g'
   obtain ⟨q1, q2⟩ := Ka (wn hx k1)
   have q3 := yF q1 hps
   have hsz : u.cells.size = ps.length := by rw [q3.length]; simp
   have hrl := r6 row (List.mem_of_getElem? hrow)
   have hmul : (i + 1) * z ≤ rows.length * z := Nat.mul_le_mul_right _ hil
   rw [Nat.succ_mul] at hmul
   have hul : u.cells.toList.length = ps.length := by simpa using hsz
   refine ⟨_, ?_, a4u H hc hg r1 (cs' := qL cs (o + i * z + off) u.cells.toList) (rows' := rows.set i (kK row off ps)) (by simp) r6 (fun r hr => ?_) r2 r3 (by simpa using r4) r5 ?_⟩
   ·simp only [wm, r1]
    rw [if_pos ⟨by rw [hsz]; exact k2, by rw [hsz]; omega, q2⟩]
   ·obtain ⟨j, hj⟩ := List.mem_iff_getElem?.1 hr
    rcases getElem?_set' hj with ⟨_, hj⟩ | ⟨_, _, rfl⟩
    ·exact r6 r (List.mem_of_getElem? hj)
    ·simpa using hrl
   ·intro i' r' j x' w e1 e2 e3
    rw [Qw _ _ _ _ (by rw [hul]; omega)] at e3
    rcases getElem?_set' e1 with ⟨hne, e1⟩ | ⟨rfl, _, rfl⟩
    ·have hr'l := r6 r' (List.mem_of_getElem? e1)
     have hj : j < z := by rw [← hr'l]; exact (List.getElem?_eq_some_iff.1 e2).1
     have hi'l : i' < rows.length := (List.getElem?_eq_some_iff.1 e1).1
     rw [if_neg ?_] at e3
     ·exact r7 i' r' j x' w e1 e2 e3
     ·rw [hul]
      rintro ⟨a1, a2⟩
      rcases Nat.lt_or_gt_of_ne hne with hlt | hlt
      ·have : (i' + 1) * z ≤ i * z := Nat.mul_le_mul_right _ hlt
       rw [Nat.succ_mul] at this
       omega
      ·have : (i + 1) * z ≤ i' * z := Nat.mul_le_mul_right _ hlt
       rw [Nat.succ_mul] at this
       omega
    ·have hj : j < row.length := by have := (List.getElem?_eq_some_iff.1 e2).1; simpa using this
     rw [WZ _ _ _ _ k3] at e2
     by_cases hin : off ≤ j ∧ j < off + ps.length
     ·rw [if_pos hin] at e2
      rw [if_pos (by rw [hul]; omega)] at e3
      obtain ⟨w', e4, rr⟩ := q3.get e2
      rw [show o + i' * z + j - (o + i' * z + off) = j - off by omega, e4] at e3
      cases e3
      exact rr
     ·rw [if_neg hin] at e2
      rw [if_neg (by rw [hul]; omega)] at e3
      exact r7 i' row j x' w hrow e2 e3
 ·cases e
theorem ad8 (H : Hp P h0 W0 γ L h) {cells : List DV} {vs : List Value} (te : TypeId) (hr : All2 (DC P (qd W0 γ L h) γ L h) cells vs) :
  ∃ γ', Hp P h0 W0 γ' (L ++ [.st cells]) (h.push (.cells vs te true)) ∧ Carry W0 γ L h γ' (L ++ [.st cells]) (h.push (.cells vs te true)) ∧ DR P (qd W0 γ' (L ++ [.st cells]) (h.push (.cells vs te true))) γ' (L ++ [.st cells]) (h.push (.cells vs te true)) (.ptr L.length 0) (kH h.next) := by
 have c := ZF (W0 := W0) (h := h) H.dom (.cells vs te true) (.st cells)
 refine ⟨_, H.push ?_, c, h.next, by simp [wC], ⟨cells, by simp⟩, rfl⟩
 exact ⟨h.next, te, vs, by simp [wC], Heap.get_push_self _ _, hr.mono fun _ _ => c.dc⟩
theorem XL (H : Hp P h0 W0 γ L h) {rows : List (List PV)} {cs : List Value} {te : TypeId} {z c : Nat} (hz : szT P te = some z) (h0z : 0 < z) (hl : rows.length * z ≤ cs.length) (hm : rows.length ≤ maxLen) (hw : ∀ r ∈ rows, r.length = z)
  (hr : ∀ (i : Nat) (r : List PV) (j : Nat) (x : PV) (u : Value), rows[i]? = some r → r[j]? = some x → cs[i * z + j]? = some u → PR P (qd W0 γ L h) h x u) (hc : c = unk ∨ (rows.length ≤ c ∧ c ≤ maxLen)) :
  ∃ γ', Hp P h0 W0 γ' (L ++ [.li (some te) rows]) (h.push (.cells cs te true)) ∧ Carry W0 γ L h γ' (L ++ [.li (some te) rows]) (h.push (.cells cs te true)) ∧
   DR P (qd W0 γ' (L ++ [.li (some te) rows]) (h.push (.cells cs te true))) γ' (L ++ [.li (some te) rows]) (h.push (.cells cs te true)) (.ref L.length 0 rows.length rows.length) (qu rows.length c h.next) := by
 have c' := ZF (W0 := W0) (h := h) H.dom (.cells cs te true) (.li (some te) rows)
 have hd1 : dud > maxLen := by decide
 have hd2 : qG > maxLen := by decide
 have hd3 : unk ≠ dud := by decide
 have hd4 : unk ≠ qG := by decide
 refine ⟨_, H.push ?_, c', by simp, rfl, fun o rs e1 e2 => ?_⟩
 ·exact ⟨h.next, 0, by simp [wC], cs, z, Heap.get_push_self _ _, hz, h0z, by omega, hm, hw, fun i r j x u e1 e2 e3 => c'.pr (hr i r j x u e1 e2 (by simpa using e3))⟩
 ·simp at e1
  subst e1
  cases e2
  refine ⟨Nat.le_refl _, fun _ => ⟨by omega, fun z' _ => .inr (.inr ⟨h.next, 0, c, by simp [wC], by simp [qu], ?_, ?_, hc⟩)⟩⟩
  ·rcases hc with rfl | hc
   ·exact hd3
   ·omega
  ·rcases hc with rfl | hc
   ·exact hd4
   ·omega
end
open Go.RowKit
section
variable {P : Program} {γ : Pl} {L : List Obj} {h : Heap} {h0 : Heap} {W0 : Ent}
structure FlatR (P : Program) (S : Nat → Prop) (h : Heap) (z : Nat) (rows : List (List PV)) (cs : List Value) : Prop where
 len : cs.length = rows.length * z
 wide : ∀ r ∈ rows, r.length = z
 get : ∀ (i : Nat) (r : List PV) (j : Nat) (x : PV) (u : Value), rows[i]? = some r → r[j]? = some x → cs[i * z + j]? = some u → PR P S h x u
theorem jr {S : Nat → Prop} (z : Nat) : FlatR P S h z [] [] := ⟨by simp, by simp, fun i r j x u e => by simp at e⟩
theorem FlatR.append {S : Nat → Prop} {z : Nat} {r1 r2 : List (List PV)} {c1 c2 : List Value} (a : FlatR P S h z r1 c1) (b : FlatR P S h z r2 c2) : FlatR P S h z (r1 ++ r2) (c1 ++ c2) := by
 refine ⟨by rw [List.length_append, List.length_append, a.len, b.len, Nat.add_mul], fun r hr => ?_, fun i r j x u e1 e2 e3 => ?_⟩
 ·rcases List.mem_append.1 hr with hr | hr
  ·exact a.wide r hr
  ·exact b.wide r hr
 ·by_cases hi : i < r1.length
  ·rw [List.getElem?_append_left hi] at e1
   have hj : j < z := by rw [← a.wide r (List.mem_of_getElem? e1)]; exact (List.getElem?_eq_some_iff.1 e2).1
   have : (i + 1) * z ≤ r1.length * z := Nat.mul_le_mul_right _ hi
   rw [Nat.succ_mul] at this
   rw [List.getElem?_append_left (by rw [a.len]; omega)] at e3
   exact a.get i r j x u e1 e2 e3
  ·rw [List.getElem?_append_right (by omega)] at e1
   have : r1.length * z ≤ i * z := Nat.mul_le_mul_right _ (by omega)
   rw [List.getElem?_append_right (by rw [a.len]; omega), a.len] at e3
   refine b.get _ r j x u e1 e2 ?_
   rw [Nat.sub_mul, ← e3]
   congr 1
   omega
theorem ac7 {S : Nat → Prop} {row : List PV} {vs : List Value} (hr : All2 (PR P S h) row vs) : FlatR P S h row.length [row] vs := by
 refine ⟨by simp [hr.length], by simp, fun i r j x u e1 e2 e3 => ?_⟩
 cases i with
 | succ i => simp at e1
 | zero =>
  simp at e1; subst e1
  obtain ⟨w, e4, rr⟩ := hr.get e2
  rw [Nat.zero_mul, Nat.zero_add] at e3
  rw [e4] at e3; cases e3
  exact rr
theorem Je {S : Nat → Prop} {cs : List Value} {o z lo n : Nat} {rows : List (List PV)} (hl : o + rows.length * z ≤ cs.length) (hw : ∀ r ∈ rows, r.length = z) (hn : lo + n ≤ rows.length)
  (hr : ∀ (i : Nat) (r : List PV) (j : Nat) (x : PV) (u : Value), rows[i]? = some r → r[j]? = some x → cs[o + i * z + j]? = some u → PR P S h x u) :
  FlatR P S h z ((rows.drop lo).take n) ((cs.drop (o + lo * z)).take (n * z)) := by
 have h1 : (lo + n) * z ≤ rows.length * z := Nat.mul_le_mul_right _ hn
 rw [Nat.add_mul] at h1
 refine ⟨by simp; rw [Nat.min_eq_left (by omega), Nat.min_eq_left (by omega)], fun r hr => hw r (List.mem_of_mem_drop (List.mem_of_mem_take hr)), fun i r j x u e1 e2 e3 => ?_⟩
 rw [List.getElem?_take] at e1 e3
 split at e1
 case isFalse => cases e1
 split at e3
 case isFalse => cases e3
 rw [List.getElem?_drop] at e1 e3
 refine hr (lo + i) r j x u e1 e2 ?_
 rw [← e3]
 congr 1
 rw [Nat.add_mul]
 omega
def a0Q (P : Program) (L : List Obj) (s : Nat) (t : TypeId) (x : DV) : Option (List (List PV)) :=
 match P.underlying t with
 | some (.slice _) => match x with
  | .p (.sl z rows) => if z = s then some rows else none
  | .p (.v (.slice none 0 0)) => some []
  | .ref id lo n tot => match zG L id tot with
   | some rows => if rows.all (fun r => r.length == s) then some ((rows.drop lo).take n) else none
   | none => none
  | .aref id off n => match L[id]? with
   | some (.st cells) => if s = 1 ∧ off + n ≤ cells.length then (pvs ((cells.drop off).take n)).map fun l => l.map fun x => [x] else none
   | _ => none
  | _ => none
 | some .string => match x with
  | .p (.v (.string b)) => if s = 1 then some (b.data.toList.map fun c => [.v (.int .u8 c.toNat)]) else none
  | _ => none
 | _ => none
theorem Hp.rows (H : Hp P h0 W0 γ L h) {id b o : Nat} {q : Obj} {rows : List (List PV)} (e : L[id]? = some q) (hl : q.isList rows) (hg : γ id = some (b, o)) : ∃ te, Rows P (qd W0 γ L h) h b o te rows := by
 have ho := H.obj id q e
 cases q with
 | li te rs =>
  cases hl
  cases te with
  | none => rw [ho.2] at hg; cases hg
  | some te => obtain ⟨b', o', g', hR⟩ := ho; rw [hg] at g'; cases g'; exact ⟨te, hR⟩
 | fz te rs =>
  cases hl
  cases te with
  | none => rw [ho.2] at hg; cases hg
  | some te => obtain ⟨b', o', g', _, hR⟩ := ho; rw [hg] at g'; cases g'; exact ⟨te, hR⟩
 | st c => exact hl.elim
 | mp c => exact hl.elim
 | dead => exact hl.elim
theorem Xp {S : Nat → Prop} {z : Nat} {rows : List (List PV)} {cs : List Value} (hf : FlatR P S h z rows cs) : cs.all Value.oneCell' = true := by
 rw [List.all_eq_true]
 intro u hu
 obtain ⟨k, hk, rfl⟩ := List.mem_iff_getElem.1 hu
 have hz : 0 < z := by
  rcases Nat.eq_zero_or_pos z with q | q
  ·rw [hf.len, q] at hk; simp at hk
  ·exact q
 have hi : k / z < rows.length := by rw [Nat.div_lt_iff_lt_mul hz, ← hf.len]; exact hk
 have hrw := hf.wide _ (List.getElem_mem hi)
 have hj : k % z < rows[k / z].length := by rw [hrw]; exact Nat.mod_lt _ hz
 refine PR.one (hf.get (k / z) rows[k / z] (k % z) _ _ (List.getElem?_eq_getElem hi) (List.getElem?_eq_getElem hj) ?_)
 rw [show k / z * z + k % z = k by rw [Nat.mul_comm]; exact Nat.div_add_mod k z]
 exact List.getElem?_eq_getElem hk
theorem ZO {S : Nat → Prop} {xs : List PV} {vs : List Value} (hr : All2 (PR P S h) xs vs) : FlatR P S h 1 (xs.map fun x => [x]) vs := by
 induction hr with
 | nil => exact jr 1
 | cons hx t ih => exact (ac7 (.cons hx .nil)).append ih
theorem wT (H : Hp P h0 W0 γ L h) {s : Nat} {t : TypeId} {x : DV} {v : Value} {rows : List (List PV)} (hx : (DR P (qd W0 γ L h) γ L h) x v) (e : a0Q P L s t x = some rows) :
  ∃ cs, uX P s t h v = some (rows.length, cs) ∧ FlatR P (qd W0 γ L h) h s rows cs := by
 unfold a0Q at e
 unfold uX
 split at e
 ·rename_i te hu
  simp only [hu]
  split at e
  ·rename_i z rs
   split at e
   case isFalse => cases e
   rename_i hz
   subst hz
   cases e
   cases (show PR P (qd W0 γ L h) h _ v from hx) with
   | nil => exact ⟨[], rfl, jr z⟩
   | dud => exact ⟨[], rfl, jr z⟩
   | zero => exact ⟨[], rfl, jr z⟩
   | sl hS hb hz0 hl hz hr hc hm =>
    rename_i b o c cs te rw
    have hf := Je (P := P) (h := h) (S := qd W0 γ L h) (cs := cs) (o := o) (z := z) (lo := 0) (n := rows.length) hl (fun r hr => by obtain ⟨i, hi⟩ := List.mem_iff_getElem?.1 hr; exact hz i r hi) (by omega) hr
    simp only [List.drop_zero, List.take_length, Nat.zero_mul, Nat.add_zero] at hf
    by_cases h0r : rows.length = 0
    ·have : rows = [] := List.length_eq_zero_iff.1 h0r
     subst this
     exact ⟨[], rfl, jr z⟩
    ·simp only [if_neg h0r, hb]
     rw [if_pos ⟨hl, Xp hf⟩]
     exact ⟨_, rfl, hf⟩
  ·cases e
   have : v = .slice none 0 0 := PR.scal (P := P) (S := qd W0 γ L h) (h := h) hx
   subst this
   exact ⟨[], rfl, jr s⟩
  ·rename_i id lo n tot
   split at e
   case h_2 => cases e
   rename_i rs hro
   split at e
   case isFalse => cases e
   rename_i hall
   cases e
   obtain ⟨q, q1, q2, q3⟩ := kN hro
   have hall' : ∀ r ∈ rs, r.length = s := fun r hr => by have := List.all_eq_true.1 hall r hr; simpa using this
   obtain ⟨k1, k2, k3⟩ := hx
   obtain ⟨k4, k5⟩ := k3 q rs q1 q2
   obtain ⟨k6, k7⟩ := k5 q3
   have hlen : ((rs.drop lo).take n).length = n := by simp; omega
   rw [hlen]
   rcases k7 s hall' with ⟨rfl | ⟨b, o, rfl⟩, h1, h2⟩ | ⟨b, o, c, rfl, h1, h2⟩ | ⟨b, o, c, g, rfl, h1⟩
   ·have : n = 0 := by omega
    subst this
    exact ⟨[], rfl, by simpa using jr s⟩
   ·have : n = 0 := by omega
    subst this
    exact ⟨[], rfl, by simpa using jr s⟩
   ·subst h1
    exact ⟨[], rfl, by simpa using jr s⟩
   ·by_cases hn : n = 0
    ·subst hn
     exact ⟨[], rfl, by simpa using jr s⟩
    ·obtain ⟨te, cs, z, r1, r2, r3, r4, r5, r6, r7⟩ := H.rows q1 q2 g
     have hne : 0 < rs.length := by omega
     have hzs : z = s := by rw [← r6 _ (List.getElem_mem hne), hall' _ (List.getElem_mem hne)]
     subst hzs
     have hf := Je (P := P) (h := h) (S := qd W0 γ L h) r4 r6 (lo := lo) (n := n) (by omega) r7
     simp only [if_neg hn, r1]
     have hm : (lo + n) * z ≤ rs.length * z := Nat.mul_le_mul_right _ (by omega)
     rw [Nat.add_mul] at hm
     rw [if_pos ⟨by omega, Xp hf⟩]
     exact ⟨_, rfl, hf⟩
  ·rename_i id off n
   split at e
   case h_2 => cases e
   rename_i cells hc
   split at e
   case isFalse => cases e
   rename_i hcond
   obtain ⟨rfl, hle⟩ := hcond
   cases hp : pvs ((cells.drop off).take n) with
   | none => rw [hp] at e; cases e
   | some xs =>
    rw [hp] at e; cases e
    obtain ⟨b, h1, _, rfl⟩ := hx
    obtain ⟨b', te, vs, g1, g2, g3⟩ := H.obj id _ hc
    rw [h1] at g1; cases g1
    have hr := yF ((g3.drop off).take n) hp
    have hlen : xs.length = n := by rw [hr.length, ← ((g3.drop off).take n).length]; simp; omega
    have hf := ZO hr
    rw [List.length_map, hlen]
    by_cases hn : n = 0
    ·subst hn
     have : xs = [] := List.length_eq_zero_iff.1 hlen
     subst this
     exact ⟨[], rfl, jr 1⟩
    ·simp only [if_neg hn, g2, Nat.mul_one]
     rw [if_pos ⟨by rw [← g3.length]; exact hle, Xp hf⟩]
     exact ⟨_, rfl, hf⟩
  ·cases e
 ·rename_i hu
  simp only [hu]
  split at e
  ·rename_i bs
   split at e
   case isFalse => cases e
   rename_i hs
   subst hs
   cases e
   have : v = .string bs := PR.scal (P := P) (S := qd W0 γ L h) (h := h) hx
   subst this
   simp only [if_true]
   refine ⟨je bs, ?_, ?_⟩
   ·rw [List.length_map]; rfl
   ·have key : ∀ l : List UInt8, All2 (PR P (qd W0 γ L h) h) (l.map fun c => PV.v (.int .u8 c.toNat)) (l.map fun c => Value.int .u8 c.toNat) := by
     intro l
     induction l with
     | nil => exact .nil
     | cons c l ih => exact .cons (PR.v rfl) ih
    have := ZO (key bs.data.toList)
    rw [List.map_map] at this
    exact this
  ·cases e
 ·cases e
end
open Go.RowKit
def QD (γ : Pl) (id b : Nat) : Pl := fun i => if i = id then some (b, 0) else γ i
section
variable {P : Program} {γ : Pl} {L : List Obj} {h : Heap} {h0 : Heap} {W0 : Ent}
theorem FlatR.mono {S S' : Nat → Prop} {h h' : Heap} {z : Nat} {rows : List (List PV)} {cs : List Value} (hf : FlatR P S h z rows cs) (hs : ∀ b, S b → S' b ∧ h'.get b = h.get b) : FlatR P S' h' z rows cs :=
 ⟨hf.len, hf.wide, fun i r j x u e1 e2 e3 => (hf.get i r j x u e1 e2 e3).mono hs⟩
theorem a17 (H : Hp P h0 W0 γ L h) {id : Nat} {te0 : Option TypeId} {te : TypeId} {rows rows' : List (List PV)} {cs : List Value} {z : Nat} {hk : Heap} (hi : L[id]? = some (.li te0 rows)) (hlt : rows.length < rows'.length)
  (hz : szT P te = some z) (h0z : 0 < z) (hm : rows'.length ≤ maxLen) (hf : FlatR P (qd W0 γ L h) h z rows' cs) (hk1 : hk.next = h.next) (hk2 : ∀ b, (∀ x, γ id ≠ some (b, x)) → hk.get b = h.get b) (hte : te0 = none → γ id = none) :
  Hp P h0 W0 (QD γ id h.next) (L.set id (.li (some te) rows')) (hk.push (.cells cs te true)) ∧ Carry W0 γ L h (QD γ id h.next) (L.set id (.li (some te) rows')) (hk.push (.cells cs te true)) ∧
   DR P (qd W0 (QD γ id h.next) (L.set id (.li (some te) rows')) (hk.push (.cells cs te true))) (QD γ id h.next) (L.set id (.li (some te) rows')) (hk.push (.cells cs te true)) (.ref id 0 rows'.length rows'.length) (qu rows'.length unk hk.next) := by
 have hid : id < L.length := (List.getElem?_eq_some_iff.1 hi).1
 have hγ : ∀ j, j ≠ id → QD γ id h.next j = γ j := fun j hj => if_neg hj
 have hget : ∀ b', b' < h.next → (∀ x, γ id ≠ some (b', x)) → (hk.push (.cells cs te true)).get b' = h.get b' := fun b' hb hx => by
  rw [Heap.get_push_ne _ _ (by omega)]; exact hk2 b' hx
 have hd : (Obj.li te0 rows).owns = true ∨ γ id = none := by
  cases te0 with
  | none => exact .inr (hte rfl)
  | some _ => exact .inl rfl
 have hn : h.next ≤ (hk.push (.cells cs te true)).next := by simp; omega
 have c := w8 (W0 := W0) (h := h) (γ' := QD γ id h.next) (h' := hk.push (.cells cs te true)) (o' := .li (some te) rows') hi hd hγ (fun c e => (by cases e)) (fun r' hl' => ⟨rows, rfl, by cases hl'; omega, fun e => by cases hl'; omega⟩) hn
  (fun b x e _ => .inr (by simp [QD] at e; omega)) hget
 have hdu : unk ≠ dud := by decide
 have hdn : unk ≠ qG := by decide
 refine ⟨H.write hi hd c hγ hn (fun b x e => .inr (by simp [QD] at e; omega)) (fun _ _ => hid) hget ?_, c, by simpa using hid, rfl, fun o rs e1 e2 => ?_⟩
 ·refine ⟨h.next, 0, by simp [QD], cs, z, by rw [← hk1]; exact Heap.get_push_self _ _, hz, h0z, by rw [hf.len]; omega, hm, hf.wide, fun i r j x u e1 e2 e3 => c.pr (hf.get i r j x u e1 e2 (by simpa using e3))⟩
 ·simp [List.getElem?_set, hid] at e1
  subst e1
  cases e2
  exact ⟨Nat.le_refl _, fun _ => ⟨by omega, fun z' _ => .inr (.inr ⟨h.next, 0, unk, by simp [QD], by simp [qu, hk1], hdu, hdn, .inl rfl⟩)⟩⟩
theorem a65 (H : Hp P h0 W0 γ L h) : Hp P h0 W0 γ (L ++ [.li none []]) h ∧ Carry W0 γ L h γ (L ++ [.li none []]) h ∧ DR P (qd W0 γ (L ++ [.li none []]) h) γ (L ++ [.li none []]) h (.ref L.length 0 0 0) (.slice none 0 0) := by
 have hno : γ L.length = none := by
  cases hq : γ L.length with
  | none => rfl
  | some x => have := H.dom _ _ hq; omega
 refine ⟨H.virtual rfl ⟨rfl, hno⟩, QJ _ rfl, by simp, rfl, fun o rs e1 e2 => ?_⟩
 simp at e1
 subst e1
 cases e2
 exact ⟨Nat.le_refl _, fun _ => ⟨by omega, fun z _ => .inl ⟨.inl rfl, rfl, hno⟩⟩⟩
def Z5 (P : Program) (ts : List TypeId) (L : List Obj) (s x : DV) : Option (DV × List Obj) :=
 match ts with
 | [t, t2] => match P.underlying t with
  | some (.slice e) => match P.info? e, qT P e with
   | some i, some _ => match a0Q P L i.size t2 x with
    | some ys => match s with
     | .p (.v (.slice none 0 0)) => if 0 < i.size ∧ ys.length ≤ maxLen ∧ ys.length * i.bytes ≤ 140737488355328 then some (.ref L.length 0 ys.length ys.length, L ++ [.li (if ys.length = 0 then none else some e) ys]) else none
     | .ref id lo n tot => match L[id]? with
      | some (.li te rows) => if lo = 0 ∧ rows.length = tot ∧ n = tot ∧ (te = none ∨ te = some e) ∧ 0 < i.size ∧ n + ys.length ≤ maxLen ∧ (n + ys.length) * i.bytes ≤ 140737488355328 then
        some (.ref id 0 (n + ys.length) (n + ys.length), L.set id (.li (if ys.length = 0 then te else some e) (rows ++ ys))) else none
      | _ => none
     | _ => none
    | none => none
   | _, _ => none
  | _ => none
 | _ => none
theorem JT (H : Hp P h0 W0 γ L h) {ts : List TypeId} {s x d : DV} {v w : Value} {L' : List Obj} (hs : (DR P (qd W0 γ L h) γ L h) s v) (hx : (DR P (qd W0 γ L h) γ L h) x w) (e : Z5 P ts L s x = some (d, L')) :
  ∃ v' h' γ', kD P ts h v w = some (v', h') ∧ Hp P h0 W0 γ' L' h' ∧ Carry W0 γ L h γ' L' h' ∧ DR P (qd W0 γ' L' h') γ' L' h' d v' := by
 unfold Z5 at e
 split at e
 case h_2 => cases e
 rename_i t t2
 split at e
 case h_2 => cases e
 rename_i te hu
 split at e
 case h_2 => cases e
 rename_i i zz hi hzz
 split at e
 case h_2 => cases e
 rename_i ys hys
 obtain ⟨cs, hsrc, hf⟩ := wT H hx hys
 have hsz : szT P te = some i.size := by unfold szT; rw [hi]; rfl
 unfold kD
 simp only [hu, hi, hzz, hsrc]
 split at e
 ·-- nil
  split at e
  case isFalse => cases e
  rename_i hc
  obtain ⟨c1, c2, c3⟩ := hc
  cases e
  have : v = .slice none 0 0 := PR.scal (P := P) (S := qd W0 γ L h) (h := h) hs
  subst this
  by_cases h0y : ys.length = 0
  ·have : ys = [] := List.length_eq_zero_iff.1 h0y
   subst this
   simp only [List.length_nil, if_true]
   obtain ⟨a1, a2, a3⟩ := a65 H
   exact ⟨_, _, γ, rfl, a1, a2, a3⟩
  ·simp only [if_neg h0y]
   rw [if_pos ⟨c2, c3⟩]
   obtain ⟨γ', a1, a2, a3⟩ := XL H (te := te) (c := unk) hsz c1 (by rw [hf.len]; exact Nat.le_refl _) c2 hf.wide hf.get (.inl rfl)
   exact ⟨_, _, γ', rfl, a1, a2, a3⟩
 ·rename_i id lo n tot
  split at e
  case h_2 => cases e
  rename_i te0 rows hli
  split at e
  case isFalse => cases e
  rename_i hc
  obtain ⟨rfl, c1, c2, c3, c4, c5, c6⟩ := hc
  cases e
  subst c1
  subst c2
  by_cases h0y : ys.length = 0
  ·have : ys = [] := List.length_eq_zero_iff.1 h0y
   subst this
   have hL : L.set id (.li te0 (rows ++ [])) = L := by
    rw [List.append_nil]
    refine List.ext_getElem? fun j => ?_
    by_cases hj : j = id
    ·subst hj
     rw [List.getElem?_set_self (List.getElem?_eq_some_iff.1 hli).1, hli]
    ·rw [List.getElem?_set_ne (Ne.symm hj)]
   simp only [List.length_nil, if_true, Nat.add_zero]
   rw [hL]
   have hv : ∃ a n c, v = .slice a n c ∧ (a = none → n = 0 ∧ c = 0) ∧ (∀ q, a = some q → q.spot = none) := by
    obtain ⟨k1, k2, k3⟩ := hs
    obtain ⟨k4, k5⟩ := k3 _ rows hli rfl
    obtain ⟨k6, k7⟩ := k5 rfl
    obtain ⟨z, hz⟩ := H.width hli rfl
    rcases k7 z hz with ⟨rfl | ⟨b, o, rfl⟩, _⟩ | ⟨b, o, c, rfl, _⟩ | ⟨b, o, c, _, rfl, _⟩
    ·exact ⟨_, _, _, rfl, fun _ => ⟨rfl, rfl⟩, fun q e => (by cases e)⟩
    ·exact ⟨_, _, _, rfl, fun e => (by cases e), fun q e => (by cases e; rfl)⟩
    ·exact ⟨_, _, _, rfl, fun e => (by cases e), fun q e => (by cases e; rfl)⟩
    ·exact ⟨_, _, _, rfl, fun e => (by cases e), fun q e => (by cases e; rfl)⟩
   obtain ⟨a, m, c, rfl, ha, hq⟩ := hv
   cases a with
   | none => obtain ⟨rfl, rfl⟩ := ha rfl; exact ⟨_, _, γ, rfl, H, Carry.refl _ _ _, hs⟩
   | some q =>
    obtain ⟨qb, qo, qv⟩ := q
    have := hq _ rfl
    simp only at this
    subst this
    exact ⟨_, _, γ, rfl, H, Carry.refl _ _ _, hs⟩
  ·obtain ⟨k1, k2, k3⟩ := hs
   obtain ⟨k4, k5⟩ := k3 _ rows hli rfl
   obtain ⟨k6, k7⟩ := k5 rfl
   obtain ⟨z0, hz0⟩ := H.width hli rfl
   have ho := H.obj id _ hli
   have hlen : (rows ++ ys).length = rows.length + ys.length := List.length_append
   simp only [if_neg h0y]
   cases te0 with
   | none =>
    obtain ⟨rfl, hγn⟩ := ho
    rcases k7 z0 hz0 with ⟨rfl | ⟨b, o, rfl⟩, _⟩ | ⟨b, o, c, rfl, _, h2⟩ | ⟨b, o, c, g, _⟩
    ·simp only
     simp only [List.length_nil, Nat.zero_add] at c5 c6
     rw [if_pos ⟨c5, c6⟩]
     obtain ⟨a1, a2, a3⟩ := a17 H (rows' := [] ++ ys) (hk := h) hli (by simp; omega) hsz c4 (by simpa using c5) (by simpa using hf) rfl (fun _ _ => rfl) (fun _ => hγn)
     simp only [List.nil_append, List.length_nil, Nat.zero_add] at a1 a2 a3 ⊢
     exact ⟨_, _, _, rfl, a1, a2, a3⟩
    ·simp only
     simp only [List.length_nil, Nat.zero_add] at c5 c6
     rw [if_neg (by rintro (q | q) <;> (simp [dud, qG] at q)), if_pos (by simpa using ⟨c5, c6⟩), if_pos ⟨trivial, trivial⟩]
     obtain ⟨a1, a2, a3⟩ := a17 H (rows' := [] ++ ys) (hk := h) hli (by simp; omega) hsz c4 (by simpa using c5) (by simpa using hf) rfl (fun _ _ => rfl) (fun _ => hγn)
     simp only [List.nil_append, List.length_nil, Nat.zero_add] at a1 a2 a3 ⊢
     exact ⟨_, _, _, rfl, a1, a2, a3⟩
    ·simp at h2
    ·rw [hγn] at g; cases g
   | some te' =>
    have hte : te' = te := by rcases c3 with c3 | c3 <;> cases c3; rfl
    subst hte
    obtain ⟨b', o', g', cs0, z, r1, r2, r3, r4, r5, r6, r7⟩ := ho
    have hzi : z = i.size := by rw [hsz] at r2; cases r2; rfl
    subst hzi
    rcases k7 _ r6 with ⟨_, _, h2⟩ | ⟨b, o, c, rfl, h1, h2⟩ | ⟨b, o, c, g, rfl, d1, d2, d3⟩
    ·rw [h2] at g'; cases g'
    ·omega
    ·rw [g'] at g; cases g
     simp only [Nat.zero_mul, Nat.add_zero]
     rw [if_neg (by rintro (q | q) <;> contradiction), if_pos ⟨c5, c6⟩]
     have hf0 := Je (P := P) (h := h) (S := qd W0 γ L h) r4 r6 (lo := 0) (n := rows.length) (by omega) r7
     simp only [List.drop_zero, List.take_length, Nat.zero_mul, Nat.add_zero] at hf0
     have hff := hf0.append hf
     have key : ∀ hk : Heap, hk.next = h.next → (∀ b, (∀ x, γ id ≠ some (b, x)) → hk.get b = h.get b) → ∃ v' h'' γ', some (qu (rows.length + ys.length) unk hk.next, hk.push (.cells ((cs0.drop o').take (rows.length * i.size) ++ cs) te' true)) = some (v', h'') ∧
       Hp P h0 W0 γ' (L.set id (.li (some te') (rows ++ ys))) h'' ∧ Carry W0 γ L h γ' (L.set id (.li (some te') (rows ++ ys))) h'' ∧ DR P (qd W0 γ' (L.set id (.li (some te') (rows ++ ys))) h'') γ' (L.set id (.li (some te') (rows ++ ys))) h'' (.ref id 0 (rows.length + ys.length) (rows.length + ys.length)) v' := by
      intro hk hk1 hk2
      obtain ⟨a1, a2, a3⟩ := a17 H (rows' := rows ++ ys) (hk := hk) hli (by rw [hlen]; omega) hsz c4 (by rw [hlen]; exact c5) hff hk1 hk2 (fun e => by cases e)
      rw [hlen] at a3
      exact ⟨_, _, _, rfl, a1, a2, a3⟩
     have e1 : h.next = h.next := rfl
     by_cases h00 : rows.length = 0 ∧ c = 0
     ·rw [if_pos h00]
      have hk := key h rfl fun _ _ => rfl
      have h0' : (cs0.drop o').take (rows.length * i.size) = [] := by rw [h00.1, Nat.zero_mul, List.take_zero]
      rw [h0', List.nil_append] at hk
      exact hk
     rw [if_neg h00]
     simp only [r1]
     rw [if_pos ⟨r4, .inr ⟨r2, trivial⟩⟩]
     split
     ·exact key h rfl fun _ _ => rfl
     ·have := key (h.kill b') rfl fun b hb => Heap.get_kill_ne h (by rintro rfl; exact hb o' g')
      exact this
 ·cases e
end
open Go.RowKit
theorem yP {n c : Nat} {lo hi mx : Option Value} {l r : Nat} {om : Option Nat} (hc : n ≤ c) (e : qE n n lo hi mx = some (l, r, om)) : qE n c lo hi mx = some (l, r, om) ∧ l ≤ r ∧ r ≤ n ∧ (∀ m, om = some m → r ≤ m ∧ m ≤ n) := by
 unfold qE at e ⊢
 split at e
 ·split at e
  ·rename_i m vh h1 
   split at e
   ·split at e
    ·rename_i h2
     rename_i hh _ 
     split at e
     ·split at e
      ·split at e
       ·rename_i vl l' h3 h4
        cases e
        rw [if_pos ⟨by omega, h2.2⟩]
        simp only [h3, if_pos h4]
        exact ⟨trivial, h4, by omega, fun m' e' => by cases e'; omega⟩
       ·cases e
      ·cases e
     ·cases e
      rw [if_pos ⟨by omega, h2.2⟩]
      exact ⟨rfl, by omega, by omega, fun m' e' => by cases e'; omega⟩
    ·cases e
   ·cases e
  ·cases e
 ·split at e
  ·split at e
   ·split at e
    ·rename_i h2
     split at e
     ·split at e
      ·split at e
       ·rename_i vl l' h3 h4
        cases e
        rw [if_pos (by omega)]
        simp only [h3, if_pos h4]
        exact ⟨trivial, h4, by omega, fun m' e' => by cases e'⟩
       ·cases e
      ·cases e
     ·cases e
      rw [if_pos (by omega)]
      exact ⟨rfl, by omega, by omega, fun m' e' => by cases e'⟩
    ·cases e
   ·cases e
  ·split at e
   ·split at e
    ·split at e
     ·rename_i vl l' h3 h4
      cases e
      simp only [h3, if_pos h4]
      exact ⟨trivial, by omega, Nat.le_refl _, fun m' e' => by cases e'⟩
     ·cases e
    ·cases e
   ·cases e
    exact ⟨rfl, by omega, Nat.le_refl _, fun m' e' => by cases e'⟩
section
variable {P : Program} {γ : Pl} {L : List Obj} {h : Heap} {h0 : Heap} {W0 : Ent}
def wj : Obj → Option TypeId
 | .li e _ => e
 | .fz e _ => e
 | _ => none
def jN (P : Program) (L : List Obj) (t : TypeId) (x : DV) (lo hi mx : Option Value) : Option DV :=
 match P.underlying t with
 | some .string => match x with
  | .p (.v (.string s)) => scD (z9 P (fun _ => none) t (.string s) lo hi mx)
  | _ => none
 | some (.slice e) => match szT P e with
  | some s => match x with
   | .p (.sl z rows) => if z = s then match qE rows.length rows.length lo hi mx with
     | some (l, r, none) => some (.p (.sl z ((rows.drop l).take (r - l))))
     | _ => none
    else none
   | .p (.v (.slice none 0 0)) => match qE 0 0 lo hi mx with
    | some _ => some (.p (.v (.slice none 0 0)))
    | none => none
   | .ref id a n tot => match zG L id tot with
    | some _ => if (L[id]?.bind wj).bind (szT P) = some s ∧ 0 < n then match qE n n lo hi mx with
      | some (l, r, _) => some (.ref id (a + l) (r - l) tot)
      | none => none
     else none
    | none => none
   | .aref id off n => match qE n n lo hi mx with
    | some (l, r, none) => if l < n then some (.aref id (off + l * s) (r - l)) else none
    | _ => none
   | _ => none
  | none => none
 | some (.array n e) => match szT P e with
  | some s => match x with
   | .ptr id off => match qE n n lo hi mx with
    | some (l, r, none) => if l < n ∧ n ≤ maxLen then some (.aref id (off + l * s) (r - l)) else none
    | _ => none
   | _ => none
  | none => none
 | _ => none
theorem yz (H : Hp P h0 W0 γ L h) {t : TypeId} {x d : DV} {v : Value} {lo hi mx : Option Value} (hx : (DR P (qd W0 γ L h) γ L h) x v) (e : jN P L t x lo hi mx = some d) : ∃ u, z9 P (qV P h) t v lo hi mx = some u ∧ (DR P (qd W0 γ L h) γ L h) d u := by
 have hdu : dud > maxLen := by decide
 have hun : unk > maxLen := by decide
 have hno : qG > maxLen := by decide
 have hnu : qG ≠ unk := by decide
 have hud : unk ≠ dud := by decide
 have hnd : qG ≠ dud := by decide
 unfold jN at e
 split at e
 ·rename_i hu
  split at e
  case h_2 => cases e
  rename_i s
  have : v = .string s := PR.scal (P := P) (S := qd W0 γ L h) (h := h) hx
  subst this
  obtain ⟨u, e1, r1⟩ := jx (P := P) (S := qd W0 γ L h) (γ := γ) (L := L) (h := h) e
  refine ⟨u, ?_, r1⟩
  rw [← e1]
  unfold z9
  simp only [hu]
 ·rename_i te hu
  split at e
  case h_2 => cases e
  rename_i s hs
  unfold z9
  simp only [hu]
  split at e
  ·rename_i z rows
   split at e
   case isFalse => cases e
   rename_i hz
   subst hz
   split at e
   case h_2 => cases e
   rename_i l r hb
   cases e
   obtain ⟨_, hlr, hr, _⟩ := yP (Nat.le_refl _) hb
   cases (show PR P (qd W0 γ L h) h _ v from hx) with
   | nil =>
    simp only [hs]
    rw [show ([] : List (List PV)).length = 0 from rfl] at hb
    simp only [hb]
    refine ⟨_, rfl, ?_⟩
    rw [List.drop_nil, List.take_nil]
    exact PR.nil
   | dud =>
    simp only [hs]
    rw [show qP 0 dud = 0 from by decide]
    rw [show ([] : List (List PV)).length = 0 from rfl] at hb
    simp only [hb, if_true]
    refine ⟨_, rfl, ?_⟩
    rw [List.drop_nil, List.take_nil]
    exact PR.dud
   | zero =>
    rename_i b o
    simp only [hs]
    rw [show qP 0 0 = 0 from by decide]
    rw [show ([] : List (List PV)).length = 0 from rfl] at hb
    simp only [hb]
    have hl0 : l = 0 := by have := hlr; have := hr; simp at this; omega
    have hr0 : r = 0 := by have := hr; simp at this; omega
    subst hl0 hr0
    rw [if_neg (by decide), if_neg (by simp)]
    refine ⟨_, rfl, ?_⟩
    rw [List.drop_nil, List.take_nil]
    exact PR.zero
   | sl hS hg h0z hl hw hrr hc hm =>
    rename_i b o c cs te' rw'
    have hcap : rows.length ≤ qP rows.length c := by
     unfold qP
     rcases hc with rfl | ⟨_, _, rfl | ⟨h1, h2⟩⟩
     ·rw [if_neg hnu, if_pos rfl]; exact Nat.le_refl _
     ·rw [if_pos rfl]; exact Nat.le_refl _
     ·rw [if_neg (by omega), if_neg (by omega), if_neg (by omega)]; exact h1
    have hbd := (yP hcap hb).1
    simp only [hs, hbd]
    rw [if_neg hc.nodud]
    have hE : ¬ (c ≠ qG ∧ ¬ (rows.length = 0 ∧ c = 0) ∧ qV P h b ≠ some z) := by
     rintro ⟨h1, _, h2⟩
     rcases hc with rfl | ⟨rfl, h3, _⟩
     ·exact h1 rfl
     ·exact h2 (by unfold qV; rw [hg]; exact h3)
    rw [if_neg hE]
    have hlen : ((rows.drop l).take (r - l)).length = r - l := by simp; omega
    have hmul : r * z ≤ rows.length * z := Nat.mul_le_mul_right _ hr
    have hsub : (r - l) * z = r * z - l * z := Nat.sub_mul _ _ _
    have hlz : l * z ≤ r * z := Nat.mul_le_mul_right _ hlr
    have key : ∀ c', CapOk P c' (r - l) rw' te' z → PR P (qd W0 γ L h) h (.sl z ((rows.drop l).take (r - l))) (.slice (some ⟨b, o + l * z, none⟩) (r - l) c') := by
     intro c' hc'
     have := PR.sl (P := P) (S := qd W0 γ L h) (h := h) (rows := (rows.drop l).take (r - l)) (b := b) (o := o + l * z) (c := c') (z := z) hS hg h0z (by rw [hlen, hsub]; omega)
      (fun i q e1 => by
       rw [List.getElem?_take] at e1
       split at e1
       ·rw [List.getElem?_drop] at e1; exact hw _ q e1
       ·cases e1)
      (fun i q j x u e1 e2 e3 => by
       rw [List.getElem?_take] at e1
       split at e1
       ·rw [List.getElem?_drop] at e1
        exact hrr (l + i) q j x u e1 e2 (by rw [← e3]; congr 1; rw [Nat.add_mul]; omega)
       ·cases e1) (by rw [hlen]; exact hc') (by rw [hlen]; omega)
     rw [hlen] at this
     exact this
    by_cases hcu : c = unk ∨ c = qG
    ·rw [if_pos hcu]
     by_cases hlt : l < rows.length
     ·rw [if_pos hlt]
      refine ⟨_, rfl, key c ?_⟩
      rcases hc with rfl | ⟨h1, h2, rfl | h3⟩
      ·exact .inl rfl
      ·exact .inr ⟨h1, h2, .inl rfl⟩
      ·rcases hcu with rfl | rfl
       ·omega
       ·omega
     ·rw [if_neg hlt]
      have : (rows.drop l).take (r - l) = [] := by rw [show r - l = 0 by omega]; simp
      rw [this]
      exact ⟨_, rfl, PR.dud⟩
    ·rw [if_neg hcu]
     rcases hc with rfl | ⟨h1, h2, rfl | ⟨h3, h4⟩⟩
     ·exact absurd (.inr rfl) hcu
     ·exact absurd (.inl rfl) hcu
     by_cases hcl : c = l
     ·rw [if_pos hcl]
      have : r - l = 0 := by omega
      rw [this]
      simp only [List.take_zero]
      refine ⟨_, rfl, ?_⟩
      exact PR.sl (rows := []) (z := z) (c := 0) hS hg h0z (by simp; omega) (by simp) (by simp) (.inr ⟨h1, h2, .inr ⟨Nat.le_refl _, Nat.zero_le _⟩⟩) (Nat.zero_le _)
     ·rw [if_neg hcl]
      exact ⟨_, rfl, key (c - l) (.inr ⟨h1, h2, .inr ⟨by omega, by omega⟩⟩)⟩
  ·split at e
   case h_2 => cases e
   rename_i q hb
   cases e
   have : v = .slice none 0 0 := PR.scal (P := P) (S := qd W0 γ L h) (h := h) hx
   subst this
   simp only [hs, hb]
   exact ⟨_, rfl, PR.v rfl⟩
  ·rename_i id a n tot
   split at e
   case h_2 => cases e
   rename_i rows hro
   split at e
   case isFalse => cases e
   rename_i hcond
   obtain ⟨hsz, hn0⟩ := hcond
   split at e
   case h_2 => cases e
   rename_i l r om hb
   cases e
   obtain ⟨q, q1, q2, q3⟩ := kN hro
   obtain ⟨z, hz⟩ := H.width q1 q2
   obtain ⟨k1, k2, k3⟩ := hx
   obtain ⟨k4, k5⟩ := k3 q rows q1 q2
   obtain ⟨k6, k7⟩ := k5 q3
   rcases k7 z hz with ⟨_, h1, h2⟩ | ⟨b, o, c, rfl, h1, h2⟩ | ⟨b, o, c, g, rfl, d1, d2, d3⟩
   ·omega
   ·omega
   obtain ⟨te', cs, z', r1, r2, r3, r4, r5, r6, r7⟩ := H.rows q1 q2 g
   have hne : 0 < rows.length := by omega
   have hzz : z' = z := by rw [← r6 _ (List.getElem_mem hne), hz _ (List.getElem_mem hne)]
   subst hzz
   have hte : wj q = some te' := by
    have ho := H.obj id q q1
    cases q with
    | li tq rs =>
     cases tq with
     | none => rw [ho.2] at g; cases g
     | some tq =>
      obtain ⟨b', o', g', cs', zz, s1, s2, _⟩ := ho
      rw [g] at g'; cases g'
      rw [r1] at s1; cases s1; rfl
    | fz tq rs =>
     cases tq with
     | none => rw [ho.2] at g; cases g
     | some tq =>
      obtain ⟨b', o', g', _, cs', zz, s1, s2, _⟩ := ho
      rw [g] at g'; cases g'
      rw [r1] at s1; cases s1; rfl
    | st => exact q2.elim
    | mp => exact q2.elim
    | dead => exact q2.elim
   have hsz' : z' = s := by
    rw [q1] at hsz
    simp only [Option.bind_some, hte, r2, Option.some.injEq] at hsz
    exact hsz
   subst hsz'
   have hcap : n ≤ qP n c := by
    unfold qP
    rcases d3 with rfl | ⟨h1, h2⟩
    ·rw [if_pos rfl]; exact Nat.le_refl _
    ·rw [if_neg (by omega), if_neg (by omega), if_neg (by omega)]; exact h1
   have hcap2 : c ≠ unk → qP n c = c := fun hc => by
    unfold qP
    rcases d3 with rfl | ⟨h1, h2⟩
    ·exact absurd rfl hc
    ·rw [if_neg hc, if_neg d2, if_neg d1]
   obtain ⟨hbd, hlr, hr, hom⟩ := yP hcap hb
   simp only [hs, hbd]
   rw [if_neg d1]
   have hE : ¬ (c ≠ qG ∧ ¬ (n = 0 ∧ c = 0) ∧ qV P h b ≠ some z') := by
    rintro ⟨_, _, h2⟩
    exact h2 (by unfold qV; rw [r1]; exact r2)
   rw [if_neg hE]
   have fin : ∀ u, ((∃ b' o' c', u = .slice (some ⟨b', o', none⟩) 0 c' ∧ r - l = 0) ∨ (∃ c', u = .slice (some ⟨b, o + a * z' + l * z', none⟩) (r - l) c' ∧ c' ≠ dud ∧ c' ≠ qG ∧ (c' = unk ∨ (r - l ≤ c' ∧ c' ≤ maxLen)))) → (DR P (qd W0 γ L h) γ L h) (.ref id (a + l) (r - l) tot) u := by
    intro u hu
    refine ⟨k1, ?_, fun q' rows' e1 e2 => ?_⟩
    ·rcases hu with ⟨_, _, _, rfl, _⟩ | ⟨_, rfl, _⟩ <;> rfl
    ·obtain ⟨m4, m5⟩ := k3 q' rows' e1 e2
     refine ⟨m4, fun e3 => ⟨by omega, fun z2 hz2 => ?_⟩⟩
     have hro' : rows' = rows := by
      rw [q1] at e1; cases e1
      cases q <;> first | (cases q2; cases e2; rfl) | exact q2.elim
     subst hro'
     have hz3 : z2 = z' := by rw [← r6 _ (List.getElem_mem hne), hz2 _ (List.getElem_mem hne)]
     subst hz3
     rcases hu with ⟨b', o', c', rfl, h2⟩ | ⟨c', rfl, f1, f2, f3⟩
     ·exact .inr (.inl ⟨b', o', c', rfl, h2, by omega⟩)
     ·refine .inr (.inr ⟨b, o, c', g, by rw [Nat.add_mul, Nat.add_assoc], f1, f2, f3⟩)
   have e0 : o + a * z' = o + a * z' := rfl
   cases om with
   | some m =>
    obtain ⟨m1, m2⟩ := hom m rfl
    simp only
    by_cases hml : m = l
    ·rw [if_pos hml]
     have : r - l = 0 := by omega
     exact ⟨_, rfl, fin _ (.inl ⟨b, o + a * z', 0, by rw [this], this⟩)⟩
    ·rw [if_neg hml, if_neg (fun q => d2 q.1), if_neg d2]
     have : m - l ≤ maxLen := by omega
     exact ⟨_, rfl, fin _ (.inr ⟨m - l, rfl, by omega, by omega, .inr ⟨by omega, this⟩⟩)⟩
   | none =>
    simp only
    by_cases hcu : c = unk
    ·rw [if_pos (.inl hcu)]
     by_cases hlt : l < n
     ·rw [if_pos hlt]
      exact ⟨_, rfl, fin _ (.inr ⟨c, rfl, d1, d2, .inl hcu⟩)⟩
     ·rw [if_neg hlt]
      have : r - l = 0 := by omega
      exact ⟨_, rfl, fin _ (.inl ⟨b, o + a * z', dud, rfl, this⟩)⟩
    ·rw [if_neg (by rintro (q | q) <;> contradiction)]
     have hd := d3.resolve_left hcu
     by_cases hcl : c = l
     ·rw [if_pos hcl]
      have : r - l = 0 := by omega
      exact ⟨_, rfl, fin _ (.inl ⟨b, o + a * z', 0, by rw [this], this⟩)⟩
     ·rw [if_neg hcl]
      exact ⟨_, rfl, fin _ (.inr ⟨c - l, rfl, by omega, by omega, .inr ⟨by omega, by omega⟩⟩)⟩
  ·rename_i id off n
   split at e
   case h_2 => cases e
   rename_i l r hb
   split at e
   case isFalse => cases e
   rename_i hl
   cases e
   obtain ⟨b, h1, h2, rfl⟩ := hx
   have hcap : qP n qG = n := by unfold qP; rw [if_neg hnu, if_pos rfl]
   simp only [hs, hcap, hb]
   rw [if_neg hnd, if_neg (by rintro ⟨q, _⟩; exact q rfl), if_pos (by simp), if_pos hl]
   exact ⟨_, rfl, b, h1, h2, rfl⟩
  ·cases e
 ·rename_i n te hu
  split at e
  case h_2 => cases e
  rename_i s hs
  split at e
  case h_2 => cases e
  rename_i id off
  split at e
  case h_2 => cases e
  rename_i l r hb
  split at e
  case isFalse => cases e
  rename_i hl
  cases e
  obtain ⟨b, h1, h2, rfl⟩ := hx
  unfold z9
  simp only [hu, hs, hb, Option.getD_none]
  rw [if_pos hl.2, if_neg (by omega)]
  exact ⟨_, rfl, b, h1, h2, rfl⟩
 ·cases e
def xm (P : Program) (L : List Obj) (t : TypeId) (x : DV) : Option DV :=
 match P.underlying t with
 | some (.slice _) => match x with
  | .p (.sl _ rows) => some (.p (.v (goInt rows.length)))
  | .p (.v (.slice none 0 0)) => some (.p (.v (goInt (0 : Nat))))
  | .ref id _ n tot => match zG L id tot with
   | some _ => some (.p (.v (goInt n)))
   | none => none
  | .aref _ _ n => some (.p (.v (goInt n)))
  | _ => none
 | some .string => match x with
  | .p (.v (.string s)) => some (.p (.v (goInt s.size)))
  | _ => none
 | some (.array n _) => match x with
  | .agg _ => some (.p (.v (goInt n)))
  | _ => none
 | _ => none
theorem xu (H : Hp P h0 W0 γ L h) {t : TypeId} {x d : DV} {v : Value} (hx : (DR P (qd W0 γ L h) γ L h) x v) (e : xm P L t x = some d) : ∃ u, Vz P t h v = some u ∧ (DR P (qd W0 γ L h) γ L h) d u := by
 unfold xm at e
 unfold Vz
 split at e
 ·rename_i te hu
  simp only [hu]
  unfold a8t
  simp only [hu]
  split at e
  ·cases e
   cases (show PR P (qd W0 γ L h) h _ v from hx) with
   | nil => exact ⟨_, rfl, PR.v rfl⟩
   | dud => exact ⟨_, rfl, PR.v rfl⟩
   | zero => exact ⟨_, rfl, PR.v rfl⟩
   | sl => exact ⟨_, rfl, PR.v rfl⟩
  ·cases e
   have : v = .slice none 0 0 := PR.scal (P := P) (S := qd W0 γ L h) (h := h) hx
   subst this
   exact ⟨_, rfl, PR.v rfl⟩
  ·rename_i id a n tot
   split at e
   case h_2 => cases e
   rename_i rows hro
   cases e
   obtain ⟨q, q1, q2, q3⟩ := kN hro
   obtain ⟨z, hz⟩ := H.width q1 q2
   obtain ⟨k1, k2, k3⟩ := hx
   obtain ⟨k4, k5⟩ := k3 q rows q1 q2
   obtain ⟨k6, k7⟩ := k5 q3
   rcases k7 z hz with ⟨rfl | ⟨b, o, rfl⟩, h1, h2⟩ | ⟨b, o, c, rfl, h1, h2⟩ | ⟨b, o, c, g, rfl, d1⟩
   ·have : n = 0 := by omega
    subst this
    exact ⟨_, rfl, PR.v rfl⟩
   ·have : n = 0 := by omega
    subst this
    exact ⟨_, rfl, PR.v rfl⟩
   ·subst h1
    exact ⟨_, rfl, PR.v rfl⟩
   ·exact ⟨_, rfl, PR.v rfl⟩
  ·cases e
   obtain ⟨b, _, _, rfl⟩ := hx
   exact ⟨_, rfl, PR.v rfl⟩
  ·cases e
 ·rename_i hu
  simp only [hu]
  split at e
  ·cases e
   rename_i s
   have : v = .string s := PR.scal (P := P) (S := qd W0 γ L h) (h := h) hx
   subst this
   exact ⟨_, by simp only [a8t, hu], PR.v rfl⟩
  ·cases e
 ·rename_i n te hu
  simp only [hu]
  split at e
  ·cases e
   obtain ⟨vs, rfl, _⟩ := hx
   exact ⟨_, by simp only [a8t, hu], PR.v rfl⟩
  ·cases e
 ·cases e
end
open Go.RowKit
section
variable {P : Program} {γ : Pl} {L : List Obj} {h : Heap} {h0 : Heap} {W0 : Ent}
def Vd : List (List PV) → Option (List Int)
 | [] => some []
 | [.v (.int .u8 n)] :: r => (Vd r).map (n :: ·)
 | _ :: _ => none
theorem a0o {S : Nat → Prop} : ∀ {rows : List (List PV)} {cs : List Value} {xs : List Int}, FlatR P S h 1 rows cs → Vd rows = some xs → yc cs = some xs
 | [], cs, xs, hf, e => by
  cases e
  have : cs = [] := List.length_eq_zero_iff.1 (by rw [hf.len]; rfl)
  subst this; rfl
 | row :: rows, cs, xs, hf, e => by
  unfold Vd at e
  split at e
  ·rename_i heq; cases heq
  ·rename_i n r heq
   cases heq
   cases hq : Vd rows with
   | none => rw [hq] at e; cases e
   | some ys =>
    rw [hq] at e; cases e
    cases cs with
    | nil => have := hf.len; simp at this
    | cons c cs =>
     have h1 : c = .int .u8 n := PR.scal (P := P) (S := S) (h := h) (hf.get 0 _ 0 _ c rfl rfl rfl)
     subst h1
     have hf' : FlatR P S h 1 rows cs := ⟨by have := hf.len; simp at this; omega, fun r hr => hf.wide r (List.mem_cons_of_mem _ hr), fun i r j x u e1 e2 e3 => hf.get (i + 1) r j x u (by simpa using e1) e2 (by rw [show (i + 1) * 1 + j = (i * 1 + j) + 1 by omega, List.getElem?_cons_succ]; exact e3)⟩
     unfold yc
     rw [a0o hf' hq]
     rfl
  ·cases e
theorem ab2 {t te : TypeId} {v : Value} {n : Nat} {cs : List Value} {xs : List Int} (hu : P.underlying t = some (.slice te)) (e : uX P 1 t h v = some (n, cs)) (hn : yc cs = some xs) : j6 h v = some (.string (strOfNums xs)) := by
 unfold uX at e
 simp only [hu] at e
 unfold j6
 split at e
 ·rename_i q; cases q
 ·cases e; cases hn; rfl
 ·rename_i b o m c _
  simp only
  split at e
  ·rename_i h0; cases e; cases hn; rw [if_pos h0]
  ·rename_i h0
   rw [if_neg h0]
   split at e
   ·rename_i cs' _ _ hg
    split at e
    ·rename_i hc
     cases e
     simp only [hg]
     rw [if_pos (by have := hc.1; omega)]
     rw [Nat.mul_one] at hn
     rw [hn]
     rfl
    ·cases e
   ·cases e
 ·cases e
def yo (P : Program) (e : TypeId) : Bool := match P.underlying e with
 | some (.int .u8) => true
 | _ => false
theorem KV {e : TypeId} (h : yo P e = true) : P.underlying e = some (.int .u8) := by
 unfold yo at h
 split at h
 ·assumption
 ·cases h
def vp (P : Program) (L : List Obj) (s d : TypeId) (x : DV) : Option (DV × List Obj) :=
 match P.underlying s, P.underlying d with
 | some (.slice e), some .string => if yo P e = true then match (a0Q P L 1 s x).bind Vd with
   | some xs => some (.p (.v (.string (strOfNums xs))), L)
   | none => none
  else none
 | some .string, some (.slice e) => match x with
  | .p (.v (.string t)) => if yo P e = true ∧ szT P e = some 1 ∧ t.size ≤ maxLen then
    some (.ref L.length 0 t.size t.size, L ++ [.li (some e) (t.data.toList.map fun c => [.v (.int .u8 c.toNat)])]) else none
  | _ => none
 | some (.slice _), some (.slice e) => match x with
  | .ref id lo n tot => if s = d ∧ yo P e = true ∧ 0 < n ∧ 0 < tot then match L[id]? with
    | some (.li (some _) rows) => if rows.length = tot then some (.ref id lo n tot, L) else none
    | _ => none
   else none
  | _ => none
 | _, _ => match wp x with
  | some v => (scD (vS P s d v)).map fun d => (d, L)
  | none => none
def Aft (P : Program) (h0 : Heap) (W0 : Ent) (γ : Pl) (L : List Obj) (h : Heap) (K : DV → List Obj → Prop) (v : Value) (h' : Heap) : Prop :=
 ∃ γ' d L', K d L' ∧ Hp P h0 W0 γ' L' h' ∧ Carry W0 γ L h γ' L' h' ∧ DR P (qd W0 γ' L' h') γ' L' h' d v
theorem z6 {K : DV → List Obj → Prop} {d : DV} {v : Value} (H : Hp P h0 W0 γ L h) (hK : K d L) (hd : (DR P (qd W0 γ L h) γ L h) d v) : Aft P h0 W0 γ L h K v h := ⟨γ, d, L, hK, H, Carry.refl _ _ _, hd⟩
theorem a31 (H : Hp P h0 W0 γ L h) {s t : TypeId} {x d : DV} {v : Value} {L' : List Obj} {K : DV → List Obj → Prop} (hx : (DR P (qd W0 γ L h) γ L h) x v) (e : vp P L s t x = some (d, L')) (hK : K d L') : jG P s t v h (Aft P h0 W0 γ L h K) := by
 unfold vp at e
 unfold jG
 split at e
 ·rename_i te h1 h2
  simp only [h1, h2]
  split at e
  case isFalse => cases e
  rename_i h3
  refine ⟨KV h3, ?_⟩
  cases hs : a0Q P L 1 s x with
  | none => rw [hs] at e; cases e
  | some rows =>
   rw [hs] at e
   simp only [Option.bind_some] at e
   cases hn : Vd rows with
   | none => rw [hn] at e; cases e
   | some xs =>
    rw [hn] at e; cases e
    obtain ⟨cs, e1, hf⟩ := wT H hx hs
    rw [ab2 h1 e1 (a0o hf hn)]
    exact z6 H hK (PR.v rfl)
 ·rename_i te h1 h2
  split at e
  case h_2 => cases e
  rename_i b
  split at e
  case isFalse => cases e
  rename_i h3
  cases e
  have : v = .string b := PR.scal (P := P) (S := qd W0 γ L h) (h := h) hx
  subst this
  simp only [h1, h2]
  obtain ⟨k1, k2, k3⟩ := h3
  have key : ∀ l : List UInt8, All2 (PR P (qd W0 γ L h) h) (l.map fun c => PV.v (.int .u8 c.toNat)) (l.map fun c => Value.int .u8 c.toNat) := by
   intro l
   induction l with
   | nil => exact .nil
   | cons c l ih => exact .cons (PR.v rfl) ih
  have hf : FlatR P (qd W0 γ L h) h 1 (b.data.toList.map fun c => [PV.v (.int .u8 c.toNat)]) (je b) := by
   have := ZO (key b.data.toList)
   rw [List.map_map] at this
   exact this
  have hlen : (b.data.toList.map fun c => [PV.v (.int .u8 (c.toNat : Int))]).length = b.size := by rw [List.length_map]; rfl
  obtain ⟨γ', a1, a2, a3⟩ := XL H (te := te) (c := unk) k2 (Nat.zero_lt_one) (by rw [hf.len]; exact Nat.le_refl _) (by rw [hlen]; exact k3) hf.wide hf.get (.inl rfl)
  rw [hlen] at a3
  exact ⟨KV k1, k2, k3, γ', _, _, hK, a1, a2, a3⟩
 ·rename_i te0 te1 h1 h2
  split at e
  case h_2 => cases e
  rename_i id lo n tot
  split at e
  case isFalse => cases e
  rename_i h3
  obtain ⟨rfl, k1, k2, k4⟩ := h3
  have hte : te0 = te1 := by rw [h1] at h2; cases h2; rfl
  subst hte
  split at e
  case h_2 => cases e
  rename_i te rows hid
  split at e
  case isFalse => cases e
  rename_i hlen
  cases e
  obtain ⟨b, o, hg, hrows⟩ := H.obj id _ hid
  obtain ⟨cs, z, r1, r2, r3, r4, r5, r6, r7⟩ := hrows
  have hx' := hx
  obtain ⟨_, _, q3⟩ := hx'
  obtain ⟨_, q5⟩ := q3 _ rows hid rfl
  obtain ⟨_, q7⟩ := q5 hlen
  rcases q7 z r6 with ⟨_, h4, _⟩ | ⟨_, _, _, _, h4, _⟩ | ⟨b', o', c, g, rfl, d1, d2, d3⟩
  ·omega
  ·omega
  ·rw [hg] at g; cases g
   simp only [h1, h2, r1]
   exact ⟨trivial, ⟨d1, fun q => by omega⟩, KV k1, z6 H hK hx⟩
 ·rename_i n1 n2 n3
  cases hv : wp x with
  | none => rw [hv] at e; cases e
  | some u =>
   have := kS hx hv; subst this
   rw [hv] at e
   cases hc : scD (vS P s t v) with
   | none => simp only [hc] at e; cases e
   | some d' =>
    simp only [hc, Option.map_some, Option.some.injEq, Prod.mk.injEq] at e
    obtain ⟨rfl, rfl⟩ := e
    obtain ⟨u, e1, r1⟩ := jx (P := P) (S := qd W0 γ L h) (γ := γ) (L := L) (h := h) hc
    split
    ·rename_i h1 h2; exact absurd h2 (n1 _ h1)
    ·rename_i h1 h2; exact absurd h2 (n2 _ h1)
    ·rename_i h1 h2; exact absurd h2 (n3 _ _ h1)
    ·simp only [e1]
     exact z6 H hK r1
theorem ad0 {S : Nat → Prop} {z i : Nat} {rows : List (List PV)} {cs ws : List Value} {ps : List PV} (hf : FlatR P S h z rows cs) (hi : i < rows.length) (hl : ps.length = z) (hp : All2 (PR P S h) ps ws) : FlatR P S h z (rows.set i ps) (qL cs (i * z) ws) := by
 have hmul : (i + 1) * z ≤ rows.length * z := Nat.mul_le_mul_right _ hi
 rw [Nat.succ_mul] at hmul
 have hwl : ws.length = z := by rw [← hp.length]; exact hl
 refine ⟨by simp [hf.len], fun r hr => ?_, fun i' r' j x' w e1 e2 e3 => ?_⟩
 ·obtain ⟨j, hj⟩ := List.mem_iff_getElem?.1 hr
  rcases getElem?_set' hj with ⟨_, hj⟩ | ⟨_, _, rfl⟩
  ·exact hf.wide r (List.mem_of_getElem? hj)
  ·exact hl
 ·rw [Qw _ _ _ _ (by rw [hwl, hf.len]; omega)] at e3
  rcases getElem?_set' e1 with ⟨hne, e1⟩ | ⟨rfl, _, rfl⟩
  ·have hj : j < z := by rw [← hf.wide r' (List.mem_of_getElem? e1)]; exact (List.getElem?_eq_some_iff.1 e2).1
   rw [if_neg ?_] at e3
   ·exact hf.get i' r' j x' w e1 e2 e3
   ·rw [hwl]
    rintro ⟨a1, a2⟩
    rcases Nat.lt_or_gt_of_ne hne with hlt | hlt
    ·have : (i' + 1) * z ≤ i * z := Nat.mul_le_mul_right _ hlt
     rw [Nat.succ_mul] at this
     omega
    ·have : (i + 1) * z ≤ i' * z := Nat.mul_le_mul_right _ hlt
     rw [Nat.succ_mul] at this
     omega
  ·have hj : j < z := by rw [← hl]; exact (List.getElem?_eq_some_iff.1 e2).1
   rw [if_pos (by rw [hwl]; omega)] at e3
   obtain ⟨w', e4, rr⟩ := hp.get e2
   rw [show i' * z + j - i' * z = j by omega, e4] at e3
   cases e3
   exact rr
def wo (z : Nat) (rows : List (List PV)) : List (Nat × DV) → Option (List (List PV))
 | [] => some rows
 | (i, d) :: r => if is1 d = true ∧ i < rows.length then match pvs (zl d) with
   | some ps => if ps.length = z then wo z (rows.set i ps) r else none
   | none => none
  else none
theorem Kk {z : Nat} : ∀ {ps : List (Nat × DV)} {qs : List (Nat × Value)} {rows xs : List (List PV)} {cs : List Value}, FlatR P (qd W0 γ L h) h z rows cs → All2 (fun d v => d.1 = v.1 ∧ (DR P (qd W0 γ L h) γ L h) d.2 v.2) ps qs → wo z rows ps = some xs →
  ∃ ws, yY (fun i => some (i * z, z)) cs qs = some ws ∧ FlatR P (qd W0 γ L h) h z xs ws ∧ xs.length = rows.length
 | [], _, rows, xs, cs, hf, .nil, e => by cases e; exact ⟨cs, rfl, hf, rfl⟩
 | (i, d) :: ps, _, rows, xs, cs, hf, .cons (b := (j, v)) hd t, e => by
  obtain ⟨rfl, hd⟩ := hd
  unfold wo at e
  unfold yY
  split at e
  case isFalse => cases e
  rename_i hc
  split at e
  case h_2 => cases e
  rename_i qs hq
  split at e
  case isFalse => cases e
  rename_i hz
  obtain ⟨q1, q2⟩ := Ka (wn hd hc.1)
  have q3 := yF q1 hq
  have hsz : v.cells.size = z := by rw [← hz, q3.length]; simp
  have hmul : (i + 1) * z ≤ rows.length * z := Nat.mul_le_mul_right _ hc.2
  rw [Nat.succ_mul] at hmul
  simp only
  rw [if_pos ⟨hsz, by rw [hf.len]; exact hmul⟩]
  obtain ⟨ws, e1, e2, e3⟩ := Kk (ad0 hf hc.2 hz q3) t e
  exact ⟨ws, e1, e2, by rw [e3]; simp⟩
theorem xl {S : Nat → Prop} {zs : List Value} {zr : List PV} (hr : All2 (PR P S h) zr zs) (n : Nat) : FlatR P S h zs.length (List.replicate n zr) (jJ zs n) := by
 refine ⟨by rw [Zo]; simp, fun r hr' => by rw [List.eq_of_mem_replicate hr', hr.length], fun i r j x u e1 e2 e3 => ?_⟩
 rw [List.getElem?_replicate] at e1
 split at e1
 case isFalse => cases e1
 rename_i hi
 cases e1
 have hj : j < zs.length := by rw [← hr.length]; exact (List.getElem?_eq_some_iff.1 e2).1
 have hmul : (i + 1) * zs.length ≤ n * zs.length := Nat.mul_le_mul_right _ hi
 rw [Nat.succ_mul] at hmul
 rw [vc _ _ _ (by omega)] at e3
 obtain ⟨w, e4, rr⟩ := hr.get e2
 have hmod : (i * zs.length + j) % zs.length = j := by rw [Nat.mul_comm, Nat.mul_add_mod]; exact Nat.mod_eq_of_lt hj
 rw [hmod, e4] at e3
 cases e3
 exact rr
def jy (P : Program) (L : List Obj) (t : TypeId) (len : Nat) (ps : List (Nat × DV)) : Option (DV × List Obj) :=
 match P.underlying t with
 | some (.slice e) => match (JK P e).bind pvs, szT P e with
  | some zr, some s => if zr.length = s ∧ len * s ≤ 16777216 ∧ 0 < s ∧ len ≤ maxLen then match wo s (List.replicate len zr) ps with
    | some rows => some (.ref L.length 0 len len, L ++ [.li (some e) rows])
    | none => none
   else none
  | _, _ => none
 | _ => none
theorem Qt (H : Hp P h0 W0 γ L h) {t : TypeId} {len : Nat} {ps : List (Nat × DV)} {qs : List (Nat × Value)} {d : DV} {L' : List Obj} {K : DV → List Obj → Prop} (hr : All2 (fun d v => d.1 = v.1 ∧ (DR P (qd W0 γ L h) γ L h) d.2 v.2) ps qs) (e : jy P L t len ps = some (d, L')) (hK : K d L') :
  ∃ q mk, kM P t len qs = some (q, mk) ∧ Aft P h0 W0 γ L h K (mk h.next) (h.push q) := by
 unfold jy at e
 unfold kM
 split at e
 case h_2 => cases e
 rename_i te hu
 simp only [hu]
 split at e
 case h_2 => cases e
 rename_i zr s hz hs
 split at e
 case isFalse => cases e
 rename_i hc
 obtain ⟨c0, c1, c2, c3⟩ := hc
 split at e
 case h_2 => cases e
 rename_i rows hrows
 cases e
 cases hzd : JK P te with
 | none => rw [hzd] at hz; cases hz
 | some zs =>
  rw [hzd] at hz
  simp only [Option.bind_some] at hz
  obtain ⟨z, e1, r1⟩ := Ql (P := P) (γ := γ) (L := L) (h := h) (S := qd W0 γ L h) hzd
  have r2 := yF r1 hz
  have hzl : z.length = s := by rw [← r2.length]; exact c0
  simp only [e1, hs]
  rw [if_pos ⟨c1, c2, c3⟩]
  have hf := xl r2 len
  rw [hzl] at hf
  obtain ⟨ws, f1, f2, f3⟩ := Kk hf hr hrows
  rw [Jr, f1]
  simp only [Option.map_some]
  have hlen : rows.length = len := by rw [f3]; simp
  obtain ⟨γ', a1, a2, a3⟩ := XL H (te := te) (c := len) (rows := rows) (cs := ws) hs c2 (by rw [f2.len]; exact Nat.le_refl _) (by rw [hlen]; exact c3) f2.wide f2.get (.inr ⟨by omega, c3⟩)
  rw [hlen] at a3
  exact ⟨_, _, rfl, γ', _, _, hK, a1, a2, a3⟩
end
open Go.RowKit
def qh {α : Type} (o : Option α) (f : α → Prop) : Prop := match o with
 | some d => f d
 | none => False
theorem qD {α : Type} (d : α) (f : α → Prop) : qh (some d) f = f d := rfl
theorem qe {α : Type} {o : Option α} {f : α → Prop} (h : qh o f) : ∃ d, o = some d ∧ f d := by
 cases o with
 | none => exact h.elim
 | some d => exact ⟨d, rfl, h⟩
def Vr (ρ : JD) : Option Operand → Option (Option Value)
 | none => some none
 | some x => match ρ x with
  | some d => (wp d).map some
  | none => none
def K2 : DV → Bool
 | .p _ => true
 | .ptr _ _ => true
 | .ep _ _ _ _ => true
 | .dp _ _ => true
 | .ref _ _ _ _ => true
 | .aref _ _ _ => true
 | _ => false
def xn (P : Program) (f : FuncId) (ds : List DV) (L : List Obj) (K : DV → List Obj → Prop) : Prop :=
 ∀ h0 W0 γ h vs, Hp P h0 W0 γ L h → All2 (DR P (qd W0 γ L h) γ L h) ds vs → ADoes P f vs h (Aft P h0 W0 γ L h K)
def Kn (c : Option DV) (a b : Option DV) : Option DV := match c with
 | some (.p (.v (.bool t))) => if t then a else b
 | _ => none
def vx (f : Fn) (a b : Option (List DV)) : Option DV := match f, a, b with
 | .func k, some a, some b => if a.all K2 && b.all K2 then some (.fn k a b) else none
 | _, _, _ => none
def Jg (P : Program) (t : TypeId) (x i : DV) : Option DV :=
 match P.underlying t, x, aec i with
 | some (.array len e), .agg cs, some n => match szT P e with
  | some s => if 0 ≤ n ∧ n.toNat < len then ye P e cs (n.toNat * s) else none
  | none => none
 | some .string, .p (.v (.string s)), some n => if 0 ≤ n then scD ((s[n.toNat]?).map fun b => .int .u8 b.toNat) else none
 | _, _, _ => none
def yJ (x : DV) (i : Nat) : Option DV := match x with
 | .tup xs => xs[i]?
 | _ => none
def a9o (L : List Obj) (x : DV) : Option DV := onD L 0 x
def wN : List DV → Option (List Value)
 | [] => some []
 | d :: l => match wp d, wN l with
  | some v, some vs => some (v :: vs)
  | _, _ => none
def zB (P : Program) (o : Op) (ρ : JD) (L : List Obj) (K : DV → List Obj → Prop) : Prop :=
 match o with
 | .move x => qh (ρ x) fun d => K d L
 | .assign x => qh (ρ x) fun d => K d L
 | .pick c a b => qh (Kn (ρ c) (ρ a) (ρ b)) fun d => K d L
 | .build t ps => qh (Zc ρ ps.toList) fun ds => qh (Ji P t ds) fun d => K d L
 | .field t x f => qh (ρ x) fun x => qh (Jw P t x f) fun d => K d L
 | .fieldAddr t x f => qh (ρ x) fun x => qh (yb P L t x f) fun d => K d L
 | .unOp op _ x => qh (ρ x) fun x => qh (wp x) fun v => qh (scD (unV op v)) fun d => K d L
 | .binOp op t x y _ => qh (ρ x) fun x => qh (ρ y) fun y => qh (wB P op t x y) fun d => K d L
 | .convert s d x => qh (ρ x) fun x => qh (vp P L s d x) fun (d, L') => K d L'
 | .makeFunc f a b => qh (vx f (yx ρ a.toList) (yx ρ b.toList)) fun d => K d L
 | .indexAddr t x i => qh (ρ x) fun x => qh (ρ i) fun i => qh (jV P L t x i) fun d => K d L
 | .index t x i => qh (ρ x) fun x => qh (ρ i) fun i => qh (Jg P t x i) fun d => K d L
 | .extract x i => qh (ρ x) fun x => qh (yJ x i) fun d => K d L
 | .nilCheck x => qh (ρ x) fun x => qh (a9o L x) fun d => K d L
 | .load t x => qh (ρ x) fun x => qh (jv P L t x) fun d => K d L
 | .store t x y => qh (ρ x) fun x => qh (ρ y) fun y => qh (ZR P L t x y) fun L' => K abI L'
 | .slice t x lo hi mx => qh (ρ x) fun x => qh (Vr ρ lo) fun lo => qh (Vr ρ hi) fun hi => qh (Vr ρ mx) fun mx => qh (jN P L t x lo hi mx) fun d => K d L
 | .box t x => qh (ρ x) fun x => is1 x = true ∧ szT P t = some (zl x).length ∧ K (.ptr L.length 0) (L ++ [.st (zl x)])
 | .alloc t => qh (JK P t) fun z => K (.ptr L.length 0) (L ++ [.st z])
 | .buildSlice t n ps => qh (Zc ρ ps.toList) fun ds => qh (jy P L t n ds) fun (d, L') => K d L'
 | .call { callee := .value f, args := args, argTypes := _ } => qh (ρ f) fun f => qh (yx ρ args.toList) fun ds => match f with
  | .fn k pre cap => xn P k (pre ++ ds ++ cap) L K
  | _ => False
 | .call { callee := .builtin .append, args := args, argTypes := ts } => qh (yx ρ args.toList) fun ds => match ds with
  | [s, x] => qh (Z5 P ts.toList L s x) fun (d, L') => K d L'
  | _ => False
 | .call { callee := .builtin .len, args := args, argTypes := ts } => qh (yx ρ args.toList) fun ds => match ds, ts.toList with
  | [x], [t] => qh (xm P L t x) fun d => K d L
  | _, _ => False
 | .call { callee := .builtin .min, args := args, argTypes := _ } => qh (yx ρ args.toList) fun ds => qh (wN ds) fun vs => qh (scD (a6z vs)) fun d => K d L
 | .call { callee := .builtin .max, args := args, argTypes := _ } => qh (yx ρ args.toList) fun ds => qh (wN ds) fun vs => qh (scD (a6t vs)) fun d => K d L
 | _ => False
section
variable {P : Program} {γ : Pl} {L : List Obj} {h : Heap} {h0 : Heap} {W0 : Ent} {ρ : JD} {r : Rho} {K : DV → List Obj → Prop}
theorem Ze (hρ : YG P W0 γ L h ρ r) {x : Option Operand} {v : Option Value} (e : Vr ρ x = some v) : jn r x = some v := by
 cases x with
 | none => cases e; rfl
 | some x =>
  unfold Vr at e
  cases hx : ρ x with
  | none => simp only [hx] at e; cases e
  | some d =>
   simp only [hx] at e
   cases hv : wp d with
   | none => rw [hv] at e; cases e
   | some u =>
    rw [hv] at e; cases e
    obtain ⟨w, e1, r1⟩ := hρ x d hx
    have := kS r1 hv
    subst this
    simp [jn, e1]
theorem aeU {S : Nat → Prop} {d : DV} {v : Value} (hb : K2 d = true) (hd : DR P S γ L h d v) : DB P S γ L h d v := by
 cases d <;> first | exact hd | (simp [K2] at hb)
theorem YB {S : Nat → Prop} : ∀ {ds : List DV} {vs : List Value}, ds.all K2 = true → All2 (DR P S γ L h) ds vs → All2 (DB P S γ L h) ds vs
 | [], _, _, .nil => .nil
 | d :: ds, _, hb, .cons hd t => by
  simp only [List.all_cons, Bool.and_eq_true] at hb
  exact .cons (aeU hb.1 hd) (YB hb.2 t)
theorem Zr : ∀ {ds : List DV} {vs xs : List Value}, All2 (DR P (qd W0 γ L h) γ L h) ds vs → wN ds = some xs → vs = xs
 | [], _, _, .nil, e => by cases e; rfl
 | d :: ds, _, xs, .cons hd t, e => by
  unfold wN at e
  cases h1 : wp d with
  | none => rw [h1] at e; cases e
  | some v =>
   cases h2 : wN ds with
   | none => rw [h1, h2] at e; cases e
   | some vs =>
    rw [h1, h2] at e; cases e
    rw [kS hd h1, Zr t h2]
theorem a9P (H : Hp P h0 W0 γ L h) (hρ : YG P W0 γ L h ρ r) {o : Op} (hk : zB P o ρ L K) : qB P o r h (Aft P h0 W0 γ L h K) := by
 unfold zB at hk
 split at hk
 ·obtain ⟨d, e, hk⟩ := qe hk
  obtain ⟨v, e1, r1⟩ := hρ _ _ e
  simp only [qB, z8, e1]; exact z6 H hk r1
 ·obtain ⟨d, e, hk⟩ := qe hk
  obtain ⟨v, e1, r1⟩ := hρ _ _ e
  simp only [qB, z8, e1]; exact z6 H hk r1
 ·obtain ⟨d, e, hk⟩ := qe hk
  unfold Kn at e
  split at e
  ·rename_i t hc
   obtain ⟨v, e1, r1⟩ := hρ _ _ hc
   have : v = .bool t := PR.scal (P := P) (S := qd W0 γ L h) (h := h) r1
   subst this
   simp only [qB, z8, e1]
   cases t
   ·obtain ⟨u, e2, r2⟩ := hρ _ _ e
    simp only [Bool.false_eq_true, if_false, e2]; exact z6 H hk r2
   ·obtain ⟨u, e2, r2⟩ := hρ _ _ e
    simp only [if_true, e2]; exact z6 H hk r2
  ·cases e
 ·obtain ⟨ds, e, hk⟩ := qe hk
  obtain ⟨d, e2, hk⟩ := qe hk
  obtain ⟨vs, e1, r1⟩ := QA hρ e
  obtain ⟨u, e3, r3⟩ := a2p r1 e2
  simp only [qB, z8, e1, e3]; exact z6 H hk r3
 ·obtain ⟨x, e, hk⟩ := qe hk
  obtain ⟨d, e2, hk⟩ := qe hk
  obtain ⟨v, e1, r1⟩ := hρ _ _ e
  obtain ⟨u, e3, r3⟩ := a25 r1 e2
  simp only [qB, z8, e1, e3]; exact z6 H hk r3
 ·obtain ⟨x, e, hk⟩ := qe hk
  obtain ⟨d, e2, hk⟩ := qe hk
  obtain ⟨v, e1, r1⟩ := hρ _ _ e
  obtain ⟨u, e3, r3⟩ := v7 H r1 e2
  simp only [qB, z8, e1, e3]; exact z6 H hk r3
 ·obtain ⟨x, e, hk⟩ := qe hk
  obtain ⟨w, e2, hk⟩ := qe hk
  obtain ⟨d, e3, hk⟩ := qe hk
  obtain ⟨v, e1, r1⟩ := hρ _ _ e
  have hv := kS r1 e2
  rw [hv] at e1
  obtain ⟨u, e4, r4⟩ := jx (P := P) (S := qd W0 γ L h) (γ := γ) (L := L) (h := h) e3
  simp only [qB, z8, e1, e4]; exact z6 H hk r4
 ·obtain ⟨x, e, hk⟩ := qe hk
  obtain ⟨y, e2, hk⟩ := qe hk
  obtain ⟨d, e3, hk⟩ := qe hk
  obtain ⟨v, e1, r1⟩ := hρ _ _ e
  obtain ⟨w, e4, r4⟩ := hρ _ _ e2
  obtain ⟨u, e5, r5⟩ := a7O r1 r4 e3
  simp only [qB, z8, e1, e4, e5]; exact z6 H hk r5
 ·obtain ⟨x, e, hk⟩ := qe hk
  obtain ⟨⟨d, L'⟩, e2, hk⟩ := qe hk
  obtain ⟨v, e1, r1⟩ := hρ _ _ e
  simp only [qB, e1]
  exact a31 H r1 e2 hk
 ·obtain ⟨d, e, hk⟩ := qe hk
  unfold vx at e
  split at e
  ·rename_i f a b h1 h2 
   split at e
   ·rename_i hb
    cases e
    simp only [Bool.and_eq_true] at hb
    obtain ⟨us, e1, r1⟩ := zn hρ h1
    obtain ⟨ws, e2, r2⟩ := zn hρ h2
    simp only [qB, z8, e1, e2]
    exact z6 H hk ⟨_, _, rfl, by simpa using YB hb.1 r1, by simpa using YB hb.2 r2⟩
   ·cases e
  ·cases e
 ·obtain ⟨x, e, hk⟩ := qe hk
  obtain ⟨y, e2, hk⟩ := qe hk
  obtain ⟨d, e3, hk⟩ := qe hk
  obtain ⟨v, e1, r1⟩ := hρ _ _ e
  obtain ⟨w, e4, r4⟩ := hρ _ _ e2
  obtain ⟨u, e5, r5⟩ := YX H r1 r4 e3
  simp only [qB, z8, e1, e4, e5]; exact z6 H hk r5
 ·obtain ⟨x, e, hk1⟩ := qe hk
  clear hk
  obtain ⟨y, e2, hk2⟩ := qe hk1
  clear hk1
  obtain ⟨d, e3, hk⟩ := qe hk2
  clear hk2
  obtain ⟨v, e1, r1⟩ := hρ _ _ e
  obtain ⟨w, e4, r4⟩ := hρ _ _ e2
  simp only [qB, z8, e1, e4]
  unfold Jg at e3
  split at e3
  ·rename_i len te cs n hu hn
   obtain ⟨k, rfl⟩ := Wl r4 hn
   obtain ⟨vs, rfl, r5⟩ := r1
   split at e3
   ·rename_i s hs
    split at e3
    ·rename_i hc
     have : vs = vs.toList.toArray := by simp
     rw [this, a46 hu hs, if_pos (by omega)]
     obtain ⟨u, e6, r6⟩ := ya r5 e3
     rw [e6]
     exact z6 H hk (jl r6)
    ·cases e3
   ·cases e3
  ·rename_i s n hu hn
   obtain ⟨k, rfl⟩ := Wl r4 hn
   have : v = .string s := PR.scal (P := P) (S := qd W0 γ L h) (h := h) r1
   subst this
   split at e3
   ·rename_i hc
    rw [a1s hu, if_pos hc]
    obtain ⟨u, e6, r6⟩ := jx (P := P) (S := qd W0 γ L h) (γ := γ) (L := L) (h := h) e3
    rw [e6]
    exact z6 H hk r6
   ·cases e3
  ·cases e3
 ·obtain ⟨x, e, hk⟩ := qe hk
  obtain ⟨d, e2, hk'⟩ := qe hk
  clear hk
  obtain ⟨v, e1, r1⟩ := hρ _ _ e
  unfold yJ at e2
  split at e2
  ·obtain ⟨vs, rfl, r2⟩ := r1
   obtain ⟨u, e3, r3⟩ := r2.get e2
   simp only [qB, z8, e1]
   rw [Array.getElem?_toList] at e3
   rw [e3]
   exact z6 H hk' (jl r3)
  ·cases e2
 ·obtain ⟨x, e, hk⟩ := qe hk
  obtain ⟨d, e2, hk⟩ := qe hk
  obtain ⟨v, e1, r1⟩ := hρ _ _ e
  obtain ⟨b, o, rfl, r2⟩ := xe H r1 e2
  simp only [qB, z8, e1]
  exact z6 H hk r2
 ·obtain ⟨x, e, hk⟩ := qe hk
  obtain ⟨d, e2, hk⟩ := qe hk
  obtain ⟨v, e1, r1⟩ := hρ _ _ e
  obtain ⟨u, e3, r3⟩ := Qo H r1 e2
  simp only [qB, e1, e3]; exact z6 H hk r3
 ·obtain ⟨x, e, hk⟩ := qe hk
  obtain ⟨y, e2, hk⟩ := qe hk
  obtain ⟨L', e3, hk⟩ := qe hk
  obtain ⟨v, e1, r1⟩ := hρ _ _ e
  obtain ⟨w, e4, r4⟩ := hρ _ _ e2
  obtain ⟨h', e5, H', c⟩ := Zs H r1 r4 e3
  simp only [qB, e1, e4, e5]
  exact ⟨γ, _, L', hk, H', c, ⟨#[], rfl, .nil⟩⟩
 ·obtain ⟨x, e, hk⟩ := qe hk
  obtain ⟨lo, e2, hk⟩ := qe hk
  obtain ⟨hi, e3, hk⟩ := qe hk
  obtain ⟨mx, e4, hk⟩ := qe hk
  obtain ⟨d, e5, hk⟩ := qe hk
  obtain ⟨v, e1, r1⟩ := hρ _ _ e
  obtain ⟨u, e6, r6⟩ := yz H r1 e5
  simp only [qB, e1, Ze hρ e2, Ze hρ e3, Ze hρ e4, e6]
  exact z6 H hk r6
 ·obtain ⟨x, e, hk⟩ := qe hk
  obtain ⟨k1, k2, hk⟩ := hk
  obtain ⟨v, e1, r1⟩ := hρ _ _ e
  obtain ⟨q1, q2⟩ := Ka (wn r1 k1)
  have hsz : v.cells.size = (zl x).length := by rw [q1.length]; simp
  simp only [qB, jp, e1]
  rw [if_pos (by rw [hsz]; exact k2)]
  obtain ⟨γ', a1, a2, a3⟩ := ad8 H _ q1
  exact ⟨γ', _, _, hk, a1, a2, a3⟩
 ·obtain ⟨z, e, hk⟩ := qe hk
  obtain ⟨zv, e1, r1⟩ := Ql (P := P) (γ := γ) (L := L) (h := h) (S := qd W0 γ L h) e
  simp only [qB, jp, e1]
  obtain ⟨γ', a1, a2, a3⟩ := ad8 H _ r1
  exact ⟨γ', _, _, hk, a1, a2, a3⟩
 ·obtain ⟨ds, e, hk⟩ := qe hk
  obtain ⟨⟨d, L'⟩, e2, hk⟩ := qe hk
  obtain ⟨vs, e1, r1⟩ := QA hρ e
  obtain ⟨q, mk, e3, ha⟩ := Qt H r1 e2 hk
  simp only [qB, jp, e1, e3]
  exact ha
 ·obtain ⟨f, e, hk⟩ := qe hk
  obtain ⟨ds, e2, hk⟩ := qe hk
  obtain ⟨v, e1, r1⟩ := hρ _ _ e
  obtain ⟨vs, e3, r3⟩ := zn hρ e2
  split at hk
  ·rename_i k pre cap
   obtain ⟨as, bs, rfl, r4, r5⟩ := r1
   simp only [qB, e1, e3, Zf]
   have up : ∀ {ds : List DV} {vs : List Value}, All2 (DB P (qd W0 γ L h) γ L h) ds vs → All2 (DR P (qd W0 γ L h) γ L h) ds vs := fun hh => hh.mono fun d v hd => by
    cases d <;> first | exact hd | exact hd.elim
   exact hk h0 W0 γ h _ H (((up r4).append r3).append (up r5))
  ·exact hk.elim
 ·obtain ⟨ds, e, hk⟩ := qe hk
  obtain ⟨vs, e3, r3⟩ := zn hρ e
  split at hk
  ·cases r3 with
   | cons hs t => cases t with
    | cons hx t =>
     cases t
     obtain ⟨⟨d, L'⟩, e2, hk⟩ := qe hk
     obtain ⟨v', h', γ', e4, a1, a2, a3⟩ := JT H hs hx e2
     simp only [qB, e3, e4]
     exact ⟨γ', _, _, hk, a1, a2, a3⟩
  ·exact hk.elim
 ·obtain ⟨ds, e, hk⟩ := qe hk
  obtain ⟨vs, e3, r3⟩ := zn hρ e
  split at hk
  ·rename_i ht
   cases r3 with
   | cons hx t =>
    cases t
    obtain ⟨d, e2, hk⟩ := qe hk
    obtain ⟨u, e4, r4⟩ := xu H hx e2
    simp only [qB, e3, ht, e4]
    exact z6 H hk r4
  ·exact hk.elim
 ·obtain ⟨ds, e, hk⟩ := qe hk
  obtain ⟨xs, e2, hk⟩ := qe hk
  obtain ⟨d, e4, hk⟩ := qe hk
  obtain ⟨vs, e3, r3⟩ := zn hρ e
  have hv := Zr r3 e2
  rw [hv] at e3
  obtain ⟨u, e5, r5⟩ := jx (P := P) (S := qd W0 γ L h) (γ := γ) (L := L) (h := h) e4
  simp only [qB, z8, e3, w5, e5]
  exact z6 H hk r5
 ·obtain ⟨ds, e, hk⟩ := qe hk
  obtain ⟨xs, e2, hk⟩ := qe hk
  obtain ⟨d, e4, hk⟩ := qe hk
  obtain ⟨vs, e3, r3⟩ := zn hρ e
  have hv := Zr r3 e2
  rw [hv] at e3
  obtain ⟨u, e5, r5⟩ := jx (P := P) (S := qd W0 γ L h) (γ := γ) (L := L) (h := h) e4
  simp only [qB, z8, e3, w5, e5]
  exact z6 H hk r5
 ·exact hk.elim
end
open Go.RowKit
inductive Tr (α : Type) where
 | nil
 | node (v : Option α) (l r : Tr α)
namespace Tr
variable {α : Type}
def get : Tr α → Nat → Option α
 | .nil, _ => none
 | .node v l r, n => if n = 0 then v else if n % 2 = 1 then l.get (n / 2) else r.get (n / 2 - 1)
def set : Nat → Tr α → Nat → Option α → Tr α
 | 0, t, _, _ => t
 | d + 1, .nil, n, x => if n = 0 then .node x .nil .nil else if n % 2 = 1 then .node none (set d .nil (n / 2) x) .nil else .node none .nil (set d .nil (n / 2 - 1) x)
 | d + 1, .node v l r, n, x => if n = 0 then .node x l r else if n % 2 = 1 then .node v (set d l (n / 2) x) r else .node v l (set d r (n / 2 - 1) x)
theorem get_set (x : Option α) : ∀ (d : Nat) (t : Tr α) (n m : Nat), n + 1 < 2 ^ d → (set d t n x).get m = if m = n then x else t.get m
 | 0, t, n, m, h => by simp at h
 | d + 1, .nil, n, m, h => by
  have hp : 2 ^ (d + 1) = 2 * 2 ^ d := by rw [Nat.pow_succ]; omega
  unfold set
  by_cases h0 : n = 0
  ·subst h0
   simp only [if_true, get]
   by_cases hm : m = 0 <;> simp [hm]
  ·rw [if_neg h0]
   by_cases ho : n % 2 = 1
   ·rw [if_pos ho]
    simp only [get]
    by_cases hm : m = 0
    ·rw [if_pos hm, if_neg (by omega)]
    ·rw [if_neg hm]
     by_cases hmo : m % 2 = 1
     ·rw [if_pos hmo, get_set x d .nil (n / 2) (m / 2) (by omega)]
      by_cases he : m = n
      ·rw [if_pos (by omega), if_pos he]
      ·rw [if_neg (by omega), if_neg he]; rfl
     ·rw [if_neg hmo, if_neg (by omega)]
   ·rw [if_neg ho]
    simp only [get]
    by_cases hm : m = 0
    ·rw [if_pos hm, if_neg (by omega)]
    ·rw [if_neg hm]
     by_cases hmo : m % 2 = 1
     ·rw [if_pos hmo, if_neg (by omega)]
     ·rw [if_neg hmo, get_set x d .nil (n / 2 - 1) (m / 2 - 1) (by omega)]
      by_cases he : m = n
      ·rw [if_pos (by omega), if_pos he]
      ·rw [if_neg (by omega), if_neg he]; rfl
 | d + 1, .node v l r, n, m, h => by
  have hp : 2 ^ (d + 1) = 2 * 2 ^ d := by rw [Nat.pow_succ]; omega
  unfold set
  by_cases h0 : n = 0
  ·subst h0
   simp only [if_true, get]
   by_cases hm : m = 0 <;> simp [hm]
  ·rw [if_neg h0]
   by_cases ho : n % 2 = 1
   ·rw [if_pos ho]
    simp only [get]
    by_cases hm : m = 0
    ·rw [if_pos hm, if_neg (by omega)]; simp [hm]
    ·rw [if_neg hm]
     by_cases hmo : m % 2 = 1
     ·rw [if_pos hmo, get_set x d l (n / 2) (m / 2) (by omega)]
      by_cases he : m = n
      ·rw [if_pos (by omega), if_pos he]
      ·rw [if_neg (by omega), if_neg he]; simp [hm, hmo]
     ·rw [if_neg hmo, if_neg (by omega)]; simp [hm, hmo]
   ·rw [if_neg ho]
    simp only [get]
    by_cases hm : m = 0
    ·rw [if_pos hm, if_neg (by omega)]; simp [hm]
    ·rw [if_neg hm]
     by_cases hmo : m % 2 = 1
     ·rw [if_pos hmo, if_neg (by omega)]; simp [hm, hmo]
     ·rw [if_neg hmo, get_set x d r (n / 2 - 1) (m / 2 - 1) (by omega)]
      by_cases he : m = n
      ·rw [if_pos (by omega), if_pos he]
      ·rw [if_neg (by omega), if_neg he]; simp [hm, hmo]
end Tr
structure PH where
 next : Nat
 t : Tr AObj
def PH.get (p : PH) (b : Nat) : Option AObj := if b < p.next then p.t.get b else none
def PH.heap (p : PH) : Heap := ⟨p.next, p.get, fun b o h => by
 unfold PH.get at h
 split at h
 ·assumption
 ·cases h⟩
def PH.room : Nat := 1073741824
def PH.push (p : PH) (o : AObj) : PH := ⟨p.next + 1, Tr.set 31 p.t p.next (some o)⟩
def PH.set (p : PH) (b : Nat) (o : AObj) : PH := ⟨p.next, Tr.set 31 p.t b (some o)⟩
def PH.kill (p : PH) (b : Nat) : PH := ⟨p.next, Tr.set 31 p.t b none⟩
theorem Heap.ext' {h h' : Heap} (hn : h.next = h'.next) (hg : ∀ b, h.get b = h'.get b) : h = h' := by
 cases h; cases h'
 simp only at hn hg
 subst hn
 have := funext hg
 subst this
 rfl
theorem PH.push_heap {p : PH} (o : AObj) (h : p.next < PH.room) : (p.push o).heap = p.heap.push o := by
 refine Heap.ext' rfl fun b => ?_
 show (p.push o).get b = if b = p.next then some o else p.get b
 unfold PH.get PH.push
 simp only
 rw [Tr.get_set _ 31 _ _ _ (by unfold PH.room at h; omega)]
 by_cases hb : b = p.next
 ·simp [hb]
 ·by_cases hl : b < p.next
  ·rw [if_pos (by omega), if_neg hb, if_neg hb, if_pos hl]
  ·rw [if_neg (by omega), if_neg hb, if_neg hl]
theorem PH.set_heap {p : PH} {b : Nat} {o o' : AObj} (hg : p.get b = some o') (h : p.next ≤ PH.room) : (p.set b o).heap = p.heap.set b o := by
 have hlt : b < p.next := by
  unfold PH.get at hg
  split at hg
  ·assumption
  ·cases hg
 refine Heap.ext' rfl fun c => ?_
 show (p.set b o).get c = if c = b then (p.get b).map (fun _ => o) else p.get c
 rw [hg]
 unfold PH.get PH.set
 simp only
 rw [Tr.get_set _ 31 _ _ _ (by unfold PH.room at h; omega)]
 by_cases hb : c = b
 ·subst hb; simp [hlt]
 ·simp [hb]
theorem PH.kill_heap {p : PH} {b : Nat} (hlt : b < p.next) (h : p.next ≤ PH.room) : (p.kill b).heap = p.heap.kill b := by
 refine Heap.ext' rfl fun c => ?_
 show (p.kill b).get c = if c = b then none else p.get c
 unfold PH.get PH.kill
 simp only
 rw [Tr.get_set _ 31 _ _ _ (by unfold PH.room at h; omega)]
 by_cases hb : c = b
 ·subst hb; simp
 ·simp [hb]
open Go.RowKit
abbrev KX := Value → PH → Bool
def up (K : KX) (v : Value) (h : Heap) : Prop := ∃ p : PH, p.heap = h ∧ K v p = true
def KE (p : PH) (o : AObj) (K : PH → Bool) : Bool := decide (p.next < PH.room) && K (p.push o)
theorem zX {p : PH} {o : AObj} {K : PH → Bool} (h : KE p o K = true) : (p.push o).heap = p.heap.push o ∧ K (p.push o) = true := by
 simp only [KE, Bool.and_eq_true, decide_eq_true_eq] at h
 exact ⟨PH.push_heap o h.1, h.2⟩
def JG (p : PH) (b : Nat) (o : AObj) : Option PH := if p.next ≤ PH.room then some (p.set b o) else none
theorem zp {p p' : PH} {b : Nat} {o o' : AObj} (h : JG p b o = some p') (hg : p.get b = some o') : p'.heap = p.heap.set b o := by
 unfold JG at h
 split at h
 ·cases h; exact PH.set_heap hg (by assumption)
 ·cases h
def a5F (P : Program) (t : TypeId) (p : PH) (a x : Value) : Option PH :=
 match a with
 | .pointer (some ⟨b, i, none⟩) =>
  match p.get b with
  | some (.cells cs e true) =>
   if szT P t = some x.cells.size ∧ i + x.cells.size ≤ cs.length ∧ x.cells.toList.all Value.oneCell' = true then
    JG p b (.cells (qL cs i x.cells.toList) e true)
   else none
  | _ => none
 | _ => none
theorem a1w {P : Program} {t : TypeId} {p p' : PH} {a x : Value} (h : a5F P t p a x = some p') : wm P t p.heap a x = some p'.heap := by
 unfold a5F at h
 unfold wm
 split at h
 ·rename_i b i
  split at h
  ·rename_i cs e hg
   split at h
   ·rename_i hc
    have hg' : p.heap.get b = some (.cells cs e true) := hg
    simp only [hg', if_pos hc, zp h hg]
   ·cases h
  ·cases h
 ·cases h
def a2F (P : Program) (ts : List TypeId) (h : Heap) (s x : Value) : Option (Value × Option (Option Nat × AObj)) :=
 match ts with
 | [t, t2] =>
  match P.underlying t with
  | some (.slice e) =>
   match P.info? e, qT P e with
   | some i, some _ =>
    match uX P i.size t2 h x with
    | some (m, news) =>
     match s with
     | .slice none 0 0 =>
      if m = 0 then some (s, none) else
      if m ≤ maxLen ∧ m * i.bytes ≤ 140737488355328 then some (qu m unk h.next, some (none, .cells news e true)) else none
     | .slice (some ⟨b, o, none⟩) n c =>
      if m = 0 then some (s, none) else
      if c = dud ∨ c = qG then none else
      if n + m ≤ maxLen ∧ (n + m) * i.bytes ≤ 140737488355328 then
       if n = 0 ∧ c = 0 then some (qu (n + m) unk h.next, some (none, .cells news e true)) else
       match h.get b with
       | some (.cells cs e' rw) =>
        if o + n * i.size ≤ cs.length ∧ ((c ≠ unk ∧ c < n + m) ∨ (szT P e' = some i.size ∧ e' = e)) then
         if c ≠ unk ∧ c < n + m then some (qu (n + m) unk h.next, some (none, .cells ((cs.drop o).take (n * i.size) ++ news) e true))
         else if rw then some (qu (n + m) unk h.next, some (some b, .cells ((cs.drop o).take (n * i.size) ++ news) e true)) else none
        else none
       | _ => none
      else none
     | _ => none
    | none => none
   | _, _ => none
  | _ => none
 | _ => none
def KC (h : Heap) : Option (Option Nat × AObj) → Heap
 | none => h
 | some (none, q) => h.push q
 | some (some b, q) => (h.kill b).push q
theorem Us {P : Program} {ts : List TypeId} {h : Heap} {s x v : Value} {act : Option (Option Nat × AObj)} (ha : a2F P ts h s x = some (v, act)) :
  kD P ts h s x = some (v, KC h act) ∧ ∀ b q, act = some (some b, q) → ∃ o, h.get b = some o := by
 unfold a2F at ha
 unfold kD
 split at ha
 ·split at ha
  ·split at ha
   ·split at ha
    ·rename_i m news hs
     simp only [*]
     split at ha
     ·split at ha
      ·cases ha; simp [*, KC]
      ·split at ha
       ·cases ha; simp [*, KC]
       ·cases ha
     ·split at ha
      ·cases ha; simp [*, KC]
      ·split at ha
       ·cases ha
       ·rename_i hdn'
        split at ha
        ·rename_i hbd
         split at ha
         ·rename_i h00
          cases ha
          simp only [KC]
          refine ⟨?_, fun b q hq => by cases hq⟩
          show (if m = 0 then _ else _) = _
          rw [if_neg ‹¬m = 0›, if_neg hdn', if_pos hbd, if_pos h00]
         rename_i h00
         split at ha
         ·split at ha
          ·rename_i hc4
           obtain ⟨q1, q2⟩ := hc4
           split at ha
           ·rename_i hc5
            cases ha
            obtain ⟨r1, r2⟩ := hc5
            simp [*, KC]
           ·rename_i hc5
            split at ha
            ·cases ha
             refine ⟨?_, fun b q hq => ?_⟩
             ·show (if m = 0 then _ else _) = _
              rw [if_neg ‹¬m = 0›, if_neg hdn', if_pos hbd, if_neg h00]
              simp only [*, KC]
              simp
              exact q2.resolve_left hc5
             ·cases hq
              exact ⟨_, by assumption⟩
            ·cases ha
          ·cases ha
         ·cases ha
        ·cases ha
     ·cases ha
    ·cases ha
   ·cases ha
  ·cases ha
 ·cases ha
def a5K (p : PH) : Option (Option Nat × AObj) → (PH → Bool) → Bool
 | none, K => K p
 | some (none, q), K => KE p q K
 | some (some b, q), K => decide (p.next ≤ PH.room) && KE (p.kill b) q K
theorem a0I {p : PH} {act : Option (Option Nat × AObj)} {K : PH → Bool} (h : a5K p act K = true) (hb : ∀ b q, act = some (some b, q) → ∃ o, p.heap.get b = some o) : ∃ p' : PH, p'.heap = KC p.heap act ∧ K p' = true := by
 match act, h, hb with
 | none, h, _ => exact ⟨p, rfl, h⟩
 | some (none, q), h, _ => exact ⟨_, (zX h).1, (zX h).2⟩
 | some (some b, q), h, hb =>
  simp only [a5K, Bool.and_eq_true, decide_eq_true_eq] at h
  obtain ⟨h1, h2⟩ := zX h.2
  obtain ⟨o, ho⟩ := hb b q rfl
  have hlt := p.heap.wf _ _ ho
  exact ⟨_, by rw [h1, PH.kill_heap hlt h.1]; rfl, h2⟩
def adB (P : Program) (ts : List TypeId) (p : PH) (d x : Value) : Option (Value × PH) :=
 match ts with
 | [t, t2] =>
  match P.underlying t with
  | some (.slice e) =>
   match szT P e with
   | some z =>
    match uX P z t2 p.heap x with
    | some (m, news) =>
     match d with
     | .slice none 0 0 => if m = 0 then some (goInt 0, p) else none
     | .slice (some ⟨b, o, none⟩) n _ =>
      if m = 0 then some (goInt 0, p) else
      if m ≤ n then
       match p.get b with
       | some (.cells cs e' true) => if o + news.length ≤ cs.length then (JG p b (.cells (qL cs o news) e' true)).map fun p' => (goInt m, p') else none
       | _ => none
      else none
     | _ => none
    | none => none
   | none => none
  | _ => none
 | _ => none
theorem a3c {P : Program} {ts : List TypeId} {p p' : PH} {d x v : Value} (h : adB P ts p d x = some (v, p')) : JW P ts p.heap d x = some (v, p'.heap) := by
 unfold adB at h
 unfold JW
 split at h
 ·split at h
  ·split at h
   ·split at h
    ·simp only [*]
     split at h
     ·split at h
      ·cases h; simp [*]
      ·cases h
     ·split at h
      ·cases h; simp [*]
      ·split at h
       ·split at h
        ·rename_i cs e' hg
         split at h
         ·rename_i hle
          rw [Option.map_eq_some_iff] at h
          obtain ⟨p2, h1, h2⟩ := h
          cases h2
          have hg' : p.heap.get _ = some (.cells cs e' true) := hg
          simp only [*, if_true, if_false, zp h1 hg]
         ·cases h
        ·cases h
       ·cases h
     ·cases h
    ·cases h
   ·cases h
  ·cases h
 ·cases h
def VJ (P : Program) (t : TypeId) (p : PH) (m k v : Value) : Option PH :=
 match P.underlying t, m with
 | some (.map kt _), .map (some r) =>
  match p.get r with
  | some (.map es ck) =>
   if kV P kt k = true then
    match wz P kt k es 0 with
    | some f => if a1F es k f = true then JG p r (.map (a0r es ck k v f).1 (a0r es ck k v f).2) else none
    | none => none
   else none
  | _ => none
 | _, _ => none
theorem JX {P : Program} {t : TypeId} {p p' : PH} {m k v : Value} (h : VJ P t p m k v = some p') : Qp P t p.heap m k v = some p'.heap := by
 unfold VJ at h
 unfold Qp
 split at h
 ·split at h
  ·rename_i es ck hg
   have hg' : p.heap.get _ = some (.map es ck) := hg
   split at h
   ·split at h
    ·split at h
     ·simp only [*, if_true, zp h hg]
     ·cases h
    ·cases h
   ·cases h
  ·cases h
 ·cases h
def a1v (P : Program) (t : TypeId) (p : PH) (m k : Value) : Option PH :=
 match P.underlying t, m with
 | some (.map kt _), .map none => if kV P kt k = true then some p else none
 | some (.map kt _), .map (some r) =>
  match p.get r with
  | some (.map es ck) =>
   if kV P kt k = true then
    match wz P kt k es 0 with
    | some (some (i, _)) => JG p r (.map (es.eraseIdx i) ck)
    | some none => JG p r (.map es ck)
    | none => none
   else none
  | _ => none
 | _, _ => none
theorem U1 {P : Program} {t : TypeId} {p p' : PH} {m k : Value} (h : a1v P t p m k = some p') : Y7 P t p.heap m k = some p'.heap := by
 unfold a1v at h
 unfold Y7
 split at h
 ·split at h
  ·cases h; simp [*]
  ·cases h
 ·split at h
  ·rename_i es ck hg
   have hg' : p.heap.get _ = some (.map es ck) := hg
   split at h
   ·split at h
    ·simp only [*, if_true, zp h hg]
    ·simp only [*, if_true, zp h hg]
    ·cases h
   ·cases h
  ·cases h
 ·cases h
open Go.RowKit
abbrev W2 := Fn → List Value → PH → KX → Bool
def afe (P : Program) (f : Fn) (args : List Value) (h : Heap) (K : Value → Heap → Prop) : Prop :=
 match f with
 | .func k => ADoes P k args h K
 | .yield l => AYield P l args h K
 | _ => False
def xc (P : Program) (call : W2) : Prop := ∀ f args p K, call f args p K = true → afe P f args p.heap (up K)
def adS (P : Program) (e : TypeId) : Bool := match P.underlying e with
 | some (.int .u8) => true
 | _ => false
theorem Wd {P : Program} {e : TypeId} (h : adS P e = true) : P.underlying e = some (.int .u8) := by
 unfold adS at h
 split at h
 ·assumption
 ·cases h
def ad3 (P : Program) (s d : TypeId) (x : Value) (p : PH) (K : KX) : Bool :=
 match P.underlying s, P.underlying d, x with
 | some (.slice e), some .string, x => adS P e && match j6 p.heap x with
  | some v => K v p
  | none => false
 | some .string, some (.slice e), .string t => adS P e && (szT P e == some 1) && decide (t.size ≤ maxLen) && KE p (.cells (je t) e true) (K (qu t.size unk p.next))
 | some (.slice _), some (.slice e), .slice (some ⟨b, o, none⟩) n c => s == d && !(c == dud) && !(n == 0 && c == 0) && adS P e && match p.get b with
  | some (.cells _ _ true) => K (.slice (some ⟨b, o, none⟩) n c) p
  | _ => false
 | _, _, x => match vS P s d x with
  | some v => K v p
  | none => false
theorem a2P {P : Program} {s d : TypeId} {x : Value} {p : PH} {K : KX} (h : ad3 P s d x p K = true) : jG P s d x p.heap (up K) := by
 unfold ad3 at h
 unfold jG
 split at h
 ·rename_i e _ hs hd
  rw [Bool.and_eq_true] at h
  simp only [hs, hd]
  refine ⟨Wd h.1, ?_⟩
  have h2 := h.2
  split at h2
  ·rename_i v hv; rw [hv]; exact ⟨p, rfl, h2⟩
  ·cases h2
 ·rename_i e t hs hd
  simp only [Bool.and_eq_true, beq_iff_eq, decide_eq_true_eq] at h
  obtain ⟨⟨⟨h1, h2⟩, h3⟩, h4⟩ := h
  obtain ⟨k1, k2⟩ := zX h4
  simp only [hs, hd]
  exact ⟨Wd h1, h2, h3, _, k1, k2⟩
 ·rename_i e0 e b o n c hs hd
  simp only [Bool.and_eq_true, beq_iff_eq, Bool.not_eq_true', beq_eq_false_iff_ne] at h
  obtain ⟨⟨⟨⟨h1, h2⟩, h2'⟩, h3⟩, h4⟩ := h
  simp only [hs, hd]
  refine ⟨h1, ⟨h2, fun q => ?_⟩, Wd h3, ?_⟩
  ·obtain ⟨rfl, rfl⟩ := q
   simp at h2'
  split at h4
  ·rename_i hg
   show match p.get b with
    | some (.cells _ _ true) => up K _ p.heap
    | _ => False
   rw [hg]; exact ⟨p, rfl, h4⟩
  ·cases h4
 ·rename_i n1 n2 n3
  split at h
  ·rename_i v hv
   split
   ·rename_i e _ hs hd
    exact absurd hd (n1 _ hs)
   ·rename_i e t hs hd
    exact absurd rfl (n2 _ _ hs hd)
   ·rename_i hs hd
    exact absurd rfl (n3 _ _ _ _ _ _ hs hd)
   ·rw [hv]; exact ⟨p, rfl, h⟩
  ·cases h
def a3a (P : Program) (o : Op) (ρ : Rho) (p : PH) (K : KX) : Bool :=
 match jp P o ρ with
 | some (q, mk) => KE p q (K (mk p.next))
 | none => false
theorem wJ {P : Program} {o : Op} {ρ : Rho} {p : PH} {K : KX} (h : a3a P o ρ p K = true) : (match jp P o ρ with
  | some (q, mk) => up K (mk p.heap.next) (p.heap.push q)
  | none => False) := by
 unfold a3a at h
 split at h
 ·rename_i q mk hn
  obtain ⟨k1, k2⟩ := zX h
  exact ⟨_, k1, k2⟩
 ·cases h
def a7j (P : Program) (t : TypeId) (x : Value) (p : PH) (K : KX) : Bool :=
 match P.underlying t, x with
 | some .string, .string s => KE p (.striter s 0) (K (kH p.next))
 | some (.map _ _), .map none => KE p (.iter none 0 [] 0) (K (kH p.next))
 | some (.map _ _), .map (some r) => match p.get r with
  | some (.map _ ck) => KE p (.iter (some r) ck [] ck) (K (kH p.next))
  | _ => false
 | _, _ => false
theorem a1S {P : Program} {t : TypeId} {x : Value} {p : PH} {K : KX} (h : a7j P t x p K = true) : Qn P t x p.heap (up K) := by
 unfold a7j at h
 unfold Qn
 split at h
 ·obtain ⟨k1, k2⟩ := zX h; simp only [*]; exact ⟨_, k1, k2⟩
 ·obtain ⟨k1, k2⟩ := zX h; simp only [*]; exact ⟨_, k1, k2⟩
 ·split at h
  ·rename_i es ck hg
   obtain ⟨k1, k2⟩ := zX h
   have hg' : p.heap.get _ = some (.map es ck) := hg
   simp only [*]; exact ⟨_, k1, k2⟩
  ·cases h
 ·cases h
def adP (P : Program) (it : Value) (isString : Bool) (p : PH) (K : KX) : Bool :=
 match it, isString with
 | .pointer (some ⟨r, 0, none⟩), true => match p.get r with
  | some (.striter s pos) =>
   if pos < s.size then (match JG p r (.striter s (pos + (Utf8.decode s pos).2)) with
    | some p' => K (.tuple #[.bool true, goInt pos, .int .i32 (Utf8.decode s pos).1]) p'
    | none => false)
   else K (.tuple #[.bool false]) p
  | _ => false
 | .pointer (some ⟨r, 0, none⟩), false => match p.get r with
  | some (.iter none _ _ _) => K (.tuple #[.bool false]) p
  | some (.iter (some b) since seen last) => match p.get b with
   | some (.map es ck) =>
    !(!seen.isEmpty && !es.isEmpty && es.all fun e => decide (e.born ≥ last)) &&
    (!((es.filter fun e => !seen.contains e.born).filter fun e => decide (e.born < since)).isEmpty || K (.tuple #[.bool false]) p) &&
    es.all fun e => seen.contains e.born || (match JG p r (.iter (some b) since (seen ++ [e.born]) ck) with
     | some p' => K (.tuple #[.bool true, e.key, e.val]) p'
     | none => false)
   | _ => false
  | _ => false
 | _, _ => false
theorem a45 {P : Program} {it : Value} {isString : Bool} {p : PH} {K : KX} (h : adP P it isString p K = true) : J1 P it isString p.heap (up K) := by
 unfold adP at h
 unfold J1
 split at h
 ·rename_i r
  split at h
  ·rename_i s pos hg
   have hg' : p.heap.get r = some (.striter s pos) := hg
   simp only [hg']
   split at h
   ·rename_i hp
    rw [if_pos hp]
    split at h
    ·rename_i p' hs
     exact ⟨p', zp hs hg, h⟩
    ·cases h
   ·rename_i hp
    rw [if_neg hp]
    exact ⟨p, rfl, h⟩
  ·cases h
 ·rename_i r
  split at h
  ·rename_i a b c hg
   have hg' : p.heap.get r = some (.iter none a b c) := hg
   simp only [hg']
   exact ⟨p, rfl, h⟩
  ·rename_i b since seen last hg
   have hg' : p.heap.get r = some (.iter (some b) since seen last) := hg
   simp only [hg']
   split at h
   ·rename_i es ck hgb
    have hgb' : p.heap.get b = some (.map es ck) := hgb
    simp only [hgb']
    rw [Bool.and_eq_true, Bool.and_eq_true] at h
    obtain ⟨⟨h1, h2⟩, h3⟩ := h
    have h1' : (!seen.isEmpty && !es.isEmpty && es.all fun e => decide (e.born ≥ last)) = false := by
     cases hq : (!seen.isEmpty && !es.isEmpty && es.all fun e => decide (e.born ≥ last)) with
     | false => rfl
     | true => rw [hq] at h1; cases h1
    refine ⟨h1', fun he => ?_, fun e he hs => ?_⟩
    ·rw [he] at h2
     exact ⟨p, rfl, by simpa using h2⟩
    ·have := List.all_eq_true.1 h3 e he
     rw [hs] at this
     simp only [Bool.false_or] at this
     split at this
     ·rename_i p' hset
      exact ⟨p', zp hset hg, this⟩
     ·cases this
   ·cases h
  ·cases h
 ·cases h
def a80 (P : Program) (it : Value) (p : PH) (K : KX) : Bool :=
 match it with
 | .pointer (some ⟨r, 0, none⟩) => match p.get r with
  | some (.iter (some b) _ seen last) => match seen.getLast?, p.get b with
   | some stamp, some (.map es ck) => decide (ck = last) &&
     match es.find? (fun e => e.born == stamp) with
     | some e => K (.tuple #[e.key, e.val]) p
     | none => false
   | _, _ => false
  | _ => false
 | _ => false
theorem a2n {P : Program} {it : Value} {p : PH} {K : KX} (h : a80 P it p K = true) : Qf P it p.heap (up K) := by
 unfold a80 at h
 unfold Qf
 split at h
 ·rename_i r
  split at h
  ·rename_i b since seen last hg
   have hg' : p.heap.get r = some (.iter (some b) since seen last) := hg
   simp only [hg']
   split at h
   ·rename_i stamp es ck hl hgb
    have hgb' : p.heap.get b = some (.map es ck) := hgb
    simp only [hl, hgb']
    rw [Bool.and_eq_true, decide_eq_true_eq] at h
    obtain ⟨h1, h2⟩ := h
    rw [if_pos h1]
    split at h2
    ·rename_i e he; rw [he]; exact ⟨p, rfl, h2⟩
    ·cases h2
   ·cases h
  ·cases h
 ·cases h
open Go.RowKit
def ahL (P : Program) (s : SelectCase) (ρ : Rho) (p : PH) (K : KX) : Bool :=
 match (P.info? s.elem).bind (·.zero), ρ s.chan with
 | some z, some (.chan (some r)) => qF z && match p.get r with
  | some (.chan cap buf) => match s.send with
   | some x => match ρ x with
    | some v => if buf.length < cap then (match JG p r (.chan cap (buf ++ [v])) with
      | some p' => K (.tuple #[goInt 0, .bool false]) p'
      | none => false) else K (.tuple #[goInt (-1), .bool false]) p
    | none => false
   | none => match buf with
    | [] => K (.tuple #[goInt (-1), .bool false, z]) p
    | v :: rest => match JG p r (.chan cap rest) with
     | some p' => K (.tuple #[goInt 0, .bool true, v]) p'
     | none => false
  | _ => false
 | _, _ => false
theorem a6F {P : Program} {s : SelectCase} {ρ : Rho} {p : PH} {K : KX} (h : ahL P s ρ p K = true) : Ki P s ρ p.heap (up K) := by
 unfold ahL at h
 unfold Ki
 split at h
 ·rename_i z r hz hch
  simp only [hz, hch]
  rw [Bool.and_eq_true] at h
  refine ⟨h.1, ?_⟩
  have h2 := h.2
  split at h2
  ·rename_i cap buf hg
   have hg' : p.heap.get r = _ := hg
   simp only [hg']
   split at h2
   ·rename_i x hx
    split at h2
    ·rename_i v hv
     split at h2
     ·rename_i hroom
      simp only [hx, hv]; rw [if_pos hroom]
      split at h2
      ·rename_i p' hs; exact ⟨p', zp hs hg, h2⟩
      ·cases h2
     ·rename_i hroom
      simp only [hx, hv]; rw [if_neg hroom]
      exact ⟨p, rfl, h2⟩
    ·cases h2
   ·rename_i hx
    simp only [hx]
    split at h2
    ·exact ⟨p, rfl, h2⟩
    ·split at h2
     ·rename_i p' hs; exact ⟨p', zp hs hg, h2⟩
     ·cases h2
  ·cases h2
 ·cases h
def opX (P : Program) (call : W2) (o : Op) (ρ : Rho) (p : PH) (K : KX) : Bool :=
 match o with
 | .load t x => match ρ x with
  | some q => match kJ P t p.heap q with
   | some v => K v p
   | none => false
  | none => false
 | .store t x y => match ρ x, ρ y with
  | some q, some v => match a5F P t p q v with
   | some p' => K undef p'
   | none => false
  | _, _ => false
 | .slice t x lo hi mx => match ρ x, jn ρ lo, jn ρ hi, jn ρ mx with
  | some v, some l, some hh, some m => match z9 P (qV P p.heap) t v l hh m with
   | some v => K v p
   | none => false
  | _, _, _, _ => false
 | .convert s d x => match ρ x with
  | some v => ad3 P s d v p K
  | none => false
 | .box t x => a3a P (.box t x) ρ p K
 | .alloc t => a3a P (.alloc t) ρ p K
 | .buildSlice t n ps => a3a P (.buildSlice t n ps) ρ p K
 | .makeSlice t l c => a3a P (.makeSlice t l c) ρ p K
 | .makeMap t r => a3a P (.makeMap t r) ρ p K
 | .makeChan t r => a3a P (.makeChan t r) ρ p K
 | .select cases false => match cases.toList with
  | [s] => ahL P s ρ p K
  | _ => false
 | .call { callee := .value f, args := args, argTypes := _ } => match ρ f, kC ρ args.toList with
  | some (.func (.func k) first cap), some vs => call (.func k) (first.toList ++ vs ++ cap.toList) p K
  | some (.func (.yield l) xs _), some vs => Nat.beq xs.size 0 && call (.yield l) vs p K
  | _, _ => false
 | .call { callee := .builtin .append, args := args, argTypes := ts } => match kC ρ args.toList with
  | some [s, x] => match a2F P ts.toList p.heap s x with
   | some (v, act) => a5K p act (K v)
   | none => false
  | _ => false
 | .call { callee := .builtin .len, args := args, argTypes := ts } => match kC ρ args.toList, ts.toList with
  | some [x], [t] => match Vz P t p.heap x with
   | some v => K v p
   | none => false
  | _, _ => false
 | .call { callee := .builtin .cap, args := args, argTypes := ts } => match kC ρ args.toList, ts.toList with
  | some [x], [t] => match agD P t p.heap x with
   | some v => K v p
   | none => false
  | _, _ => false
 | .call { callee := .builtin .clear, args := args, argTypes := ts } => match kC ρ args.toList, ts.toList with
  | some [x], [t] => match a1z P t x with
   | some v => K v p
   | none => false
  | _, _ => false
 | .call { callee := .builtin .copy, args := args, argTypes := ts } => match kC ρ args.toList with
  | some [d, x] => match adB P ts.toList p d x with
   | some (v, p') => K v p'
   | none => false
  | _ => false
 | .call { callee := .builtin .delete, args := args, argTypes := ts } => match kC ρ args.toList, ts.toList with
  | some [m, k], t :: _ => match a1v P t p m k with
   | some p' => K (.tuple #[]) p'
   | none => false
  | _, _ => false
 | .insert t x y z => match ρ x, ρ y, ρ z with
  | some m, some k, some v => match VJ P t p m k v with
   | some p' => K undef p'
   | none => false
  | _, _, _ => false
 | .mapUpdate t x y z => match ρ x, ρ y, ρ z with
  | some m, some k, some v => match VJ P t p m k v with
   | some p' => K undef p'
   | none => false
  | _, _, _ => false
 | .lookup t x y ok => match ρ x, ρ y with
  | some m, some k => match Jz P t p.heap m k ok with
   | some v => K v p
   | none => false
  | _, _ => false
 | .range t x => match ρ x with
  | some v => a7j P t v p K
  | none => false
 | .next x s => match ρ x with
  | some v => adP P v s p K
  | none => false
 | .entry x => match ρ x with
  | some v => a80 P v p K
  | none => false
 | .makeInterface t x => match ρ x with
  | some v => match a88 P t v with
   | some v' => K v' p
   | none => false
  | none => false
 | .typeAssert x _ t ok => match ρ x with
  | some v => match a1k P v t ok with
   | some v' => K v' p
   | none => false
  | none => false
 | o => match z8 P o ρ with
  | some v => K v p
  | none => false
theorem abn {P : Program} {call : W2} (hc : xc P call) {o : Op} {ρ : Rho} {p : PH} {K : KX} (h : opX P call o ρ p K = true) : qB P o ρ p.heap (up K) := by
 unfold opX at h
 unfold qB
 split at h
 ·split at h
  ·split at h
   ·simp only [*]; exact ⟨p, rfl, h⟩
   ·cases h
  ·cases h
 ·split at h
  ·split at h
   ·rename_i p' hs
    simp only [*, a1w hs]; exact ⟨p', rfl, h⟩
   ·cases h
  ·cases h
 ·split at h
  ·split at h
   ·simp only [*]; exact ⟨p, rfl, h⟩
   ·cases h
  ·cases h
 ·split at h
  ·simp only [*]; exact a2P h
  ·cases h
 ·exact wJ h
 ·exact wJ h
 ·exact wJ h
 ·exact wJ h
 ·exact wJ h
 ·exact wJ h
 ·split at h
  ·simp only [*]; exact a6F h
  ·cases h
 ·split at h
  ·rename_i k _ _ _ _ _; simp only [*]; exact hc (.func k) _ _ _ h
  ·rename_i l _ _ _ _ _; rw [Bool.and_eq_true] at h; simp only [*]; exact ⟨Nat.eq_of_beq_eq_true h.1, hc (.yield l) _ _ _ h.2⟩
  ·cases h
 ·split at h
  ·split at h
   ·rename_i v act ha
    obtain ⟨h1, h2⟩ := Us ha
    obtain ⟨p', k1, k2⟩ := a0I h h2
    simp only [*]; exact ⟨p', k1, k2⟩
   ·cases h
  ·cases h
 ·split at h
  ·split at h
   ·simp only [*]; exact ⟨p, rfl, h⟩
   ·cases h
  ·cases h
 ·split at h
  ·split at h
   ·simp only [*]; exact ⟨p, rfl, h⟩
   ·cases h
  ·cases h
 ·split at h
  ·split at h
   ·simp only [*]; exact ⟨p, rfl, h⟩
   ·cases h
  ·cases h
 ·split at h
  ·split at h
   ·rename_i v p' ha
    simp only [*, a3c ha]; exact ⟨p', rfl, h⟩
   ·cases h
  ·cases h
 ·split at h
  ·split at h
   ·rename_i p' ha
    simp only [*, U1 ha]; exact ⟨p', rfl, h⟩
   ·cases h
  ·cases h
 ·split at h
  ·split at h
   ·rename_i p' ha
    simp only [*, JX ha]; exact ⟨p', rfl, h⟩
   ·cases h
  ·cases h
 ·split at h
  ·split at h
   ·rename_i p' ha
    simp only [*, JX ha]; exact ⟨p', rfl, h⟩
   ·cases h
  ·cases h
 ·split at h
  ·split at h
   ·simp only [*]; exact ⟨p, rfl, h⟩
   ·cases h
  ·cases h
 ·split at h
  ·simp only [*]; exact a1S h
  ·cases h
 ·split at h
  ·simp only [*]; exact a45 h
  ·cases h
 ·split at h
  ·simp only [*]; exact a2n h
  ·cases h
 ·split at h
  ·split at h
   ·simp only [*]; exact ⟨p, rfl, h⟩
   ·cases h
  ·cases h
 ·split at h
  ·split at h
   ·simp only [*]; exact ⟨p, rfl, h⟩
   ·cases h
  ·cases h
 ·split at h
  ·simp only [*]; exact ⟨p, rfl, h⟩
  ·cases h
abbrev FX := Frm → PH → Bool
def a2Q (P : Program) (call : W2) : List C → FX → FX
 | [], K, a, p => K a p
 | c :: r, K, a, p => match c.g with
  | none => opX P call c.op a.ev p (fun v p' => a2Q P call r K (a.put c.d v) p')
  | some (t, want) => match zo t want a with
   | some true => opX P call c.op a.ev p (fun v p' => a2Q P call r K (a.put c.d v) p')
   | some false => a2Q P call r K (a.put c.d undef) p
   | none => false
theorem a5c {P : Program} {s d : TypeId} {x : Value} {h : Heap} {K K' : Value → Heap → Prop} (hk : ∀ v h, K v h → K' v h) (q : jG P s d x h K) : jG P s d x h K' := by
 unfold jG at q ⊢
 split at q
 ·refine ⟨q.1, ?_⟩
  have q2 := q.2
  split at q2
  ·exact hk _ _ q2
  ·exact q2.elim
 ·exact ⟨q.1, q.2.1, q.2.2.1, hk _ _ q.2.2.2⟩
 ·refine ⟨q.1, q.2.1, q.2.2.1, ?_⟩
  have q2 := q.2.2.2
  split at q2
  ·exact hk _ _ q2
  ·exact q2.elim
 ·split at q
  ·exact hk _ _ q
  ·exact q.elim
theorem a2y {P : Program} {t : TypeId} {x : Value} {h : Heap} {K K' : Value → Heap → Prop} (hk : ∀ v h, K v h → K' v h) (q : Qn P t x h K) : Qn P t x h K' := by
 unfold Qn at q ⊢
 split at q
 ·exact hk _ _ q
 ·exact hk _ _ q
 ·split at q
  ·exact hk _ _ q
  ·exact q.elim
 ·exact q.elim
theorem a4M {P : Program} {x : Value} {s : Bool} {h : Heap} {K K' : Value → Heap → Prop} (hk : ∀ v h, K v h → K' v h) (q : J1 P x s h K) : J1 P x s h K' := by
 unfold J1 at q ⊢
 split at q
 ·split at q
  ·split at q
   ·rename_i hl; rw [if_pos hl]; exact hk _ _ q
   ·rename_i hl; rw [if_neg hl]; exact hk _ _ q
  ·exact q.elim
 ·split at q
  ·exact hk _ _ q
  ·split at q
   ·exact ⟨q.1, fun e => hk _ _ (q.2.1 e), fun e he hs => hk _ _ (q.2.2 e he hs)⟩
   ·exact q.elim
  ·exact q.elim
 ·exact q.elim
theorem a0t {P : Program} {x : Value} {h : Heap} {K K' : Value → Heap → Prop} (hk : ∀ v h, K v h → K' v h) (q : Qf P x h K) : Qf P x h K' := by
 unfold Qf at q ⊢
 split at q
 ·split at q
  ·split at q
   ·split at q
    ·rename_i hc
     rw [if_pos hc]
     split at q
     ·exact hk _ _ q
     ·exact q.elim
    ·exact q.elim
   ·exact q.elim
  ·exact q.elim
 ·exact q.elim
theorem a5b {P : Program} {f : Value} {vs : List Value} {h : Heap} {K K' : Value → Heap → Prop} (hk : ∀ v h, K v h → K' v h) (q : Zf P f vs h K) : Zf P f vs h K' := by
 unfold Zf at q ⊢
 split at q
 ·exact ADoes.mono q hk
 ·exact ⟨q.1, AYield.mono q.2 hk⟩
 ·exact q.elim
theorem a5R {P : Program} {s : SelectCase} {ρ : Rho} {h : Heap} {K K' : Value → Heap → Prop} (hk : ∀ v h, K v h → K' v h) (q : Ki P s ρ h K) : Ki P s ρ h K' := by
 unfold Ki at q ⊢
 split at q
 ·refine ⟨q.1, ?_⟩
  have q2 := q.2
  split at q2
  ·rename_i cap buf hg
   try simp only [hg]
   split at q2
   ·rename_i x hx
    split at q2
    ·rename_i v hv
     try simp only [hx, hv]
     split at q2
     ·rename_i hr; rw [if_pos hr]; exact hk _ _ q2
     ·rename_i hr; rw [if_neg hr]; exact hk _ _ q2
    ·exact q2.elim
   ·rename_i hx
    try simp only [hx]
    split at q2
    ·exact hk _ _ q2
    ·exact hk _ _ q2
  ·exact q2.elim
 ·exact q.elim
theorem wL {P : Program} {o : Op} {ρ : Rho} {h : Heap} {K K' : Value → Heap → Prop} (hk : ∀ v h, K v h → K' v h) (q : qB P o ρ h K) : qB P o ρ h K' := by
 unfold qB at q ⊢
 split at q <;> first
  | (split at q <;> first
    | exact a5c hk q
    | exact a2y hk q
    | exact a4M hk q
    | exact a0t hk q
    | exact a5b hk q
    | exact a5R hk q
    | exact hk _ _ q
    | exact q.elim
    | (split at q <;> first | exact hk _ _ q | exact q.elim))
theorem Zv {P : Program} {call : W2} (hc : xc P call) : ∀ (l : List C) {K : FX} {K' : Frm → Heap → Prop} {a : Frm} {p : PH}, (∀ a p, K a p = true → K' a p.heap) → a2Q P call l K a p = true → cWp P l K' a p.heap
 | [], K, K', a, p, hk, h => hk a p h
 | c :: r, K, K', a, p, hk, h => by
  have step : ∀ a' : Frm, opX P call c.op a'.ev p (fun v p' => a2Q P call r K (a'.put c.d v) p') = true → qB P c.op a'.ev p.heap (fun v h' => cWp P r K' (a'.put c.d v) h') := by
   intro a' h
   refine wL ?_ (abn hc h)
   rintro v h' ⟨p', rfl, h2⟩
   exact Zv hc r hk h2
  unfold a2Q at h
  unfold cWp
  cases hg : c.g with
  | none => rw [hg] at h; exact step a h
  | some tw =>
   obtain ⟨t, want⟩ := tw
   rw [hg] at h
   simp only at h ⊢
   cases hv : zo t want a with
   | none => rw [hv] at h; cases h
   | some b =>
    rw [hv] at h
    cases b
    ·exact ⟨fun e => (by cases e), fun _ => Zv hc r hk h⟩
    ·exact ⟨fun _ => step a h, fun e => (by cases e)⟩
open Go.RowKit
def KS (t : Option Tmp) (want : Bool) (a : DFrm) : Option Bool :=
 match t with
 | some t => match qW t a.l with
  | some (.p (.v (.bool b))) => some (if want then b else !b)
  | some (.tup _) => some false
  | _ => none
 | none => none
def z3 (P : Program) : List C → (DFrm → List Obj → Prop) → DFrm → List Obj → Prop
 | [], K, a, L => K a L
 | c :: r, K, a, L =>
  match c.g with
  | none => zB P c.op a.ev L (fun d L' => z3 P r K (a.put c.d d) L')
  | some (t, want) => zA (KS t want a) (zB P c.op a.ev L (fun d L' => z3 P r K (a.put c.d d) L')) (z3 P r K (a.put c.d abI) L)
def a3r (a : DFrm) : Option Tmp → Option DV
 | some t => qW t a.l
 | none => none
def KB (P : Program) (o : Op) (ρ : JD) (L : List Obj) : Option DV :=
 match o with
 | .load t x => match ρ x with
  | some p => jv P L t p
  | none => none
 | .call { callee := .builtin .len, args := args, argTypes := ts } => match yx ρ args.toList, ts.toList with
  | some [x], [t] => xm P L t x
  | _, _ => none
 | _ => none
def Xg (P : Program) (c : C) (a : DFrm) (L : List Obj) : Prop :=
 (qh (KB P c.op a.ev L) fun d => qh (wp d) fun x => qh (a3r a c.d) fun d' => qh (wp d') fun y => x = y) ∨ ∃ id off, KB P c.op a.ev L = some (.ptr id off) ∧ a3r a c.d = some (.ptr id off)
def ab7 (P : Program) (c : C) (a : DFrm) (L : List Obj) : Prop :=
 match c.g with
 | none => Xg P c a L
 | some (t, want) => zA (KS t want a) (Xg P c a L) True
def Zx (P : Program) (a : DFrm) (L : List Obj) : List C → Prop
 | [] => True
 | c :: r => ab7 P c a L ∧ Zx P a L r
def a0z (P : Program) : List (C × List C) → (DFrm → List Obj → Prop) → DFrm → List Obj → Prop
 | [], K, a, L => K a L
 | (c, ks) :: r, K, a, L => z3 P [c] (fun a L => Zx P a L ks ∧ a0z P r K a L) a L
structure FR (P : Program) (W0 : Ent) (γ : Pl) (L : List Obj) (h : Heap) (a : DFrm) (fa : Frm) : Prop where
 n : fa.n = a.n
 cnt : W0.cnt = a.c
 slots : ∀ t d, qW t a.l = some d → ∃ v, fa.get t = some v ∧ DR P (qd W0 γ L h) γ L h d v
section
variable {P : Program} {γ : Pl} {L : List Obj} {h : Heap} {h0 : Heap} {W0 : Ent} {a : DFrm} {fa : Frm}
theorem adj {S : Nat → Prop} {v : Value} {d : DV} (e : xQ v = some d) : qF v = true ∧ DR P S γ L h d v := by
 unfold xQ at e
 split at e
 ·rename_i hs; cases e; exact ⟨a8A hs, PR.v hs⟩
 ·split at e
  ·split at e
   ·rename_i xs _ hx
    cases e
    refine ⟨by simpa [qF] using hx, ?_⟩
    have hx' : xs = #[] := by simpa using hx
    rw [hx']
    exact ⟨#[], rfl, .nil⟩
   ·cases e
  ·cases e
theorem FR.rho (hf : FR P W0 γ L h a fa) : YG P W0 γ L h a.ev fa.ev := by
 intro x d e
 cases x with
 | tmp t => exact hf.slots t d e
 | const v =>
  obtain ⟨h1, h2⟩ := adj (P := P) (S := qd W0 γ L h) (γ := γ) (L := L) (h := h) e
  exact ⟨v, by simp [Frm.ev, h1], h2⟩
 | func f => cases e; exact ⟨_, rfl, #[], #[], rfl, .nil, .nil⟩
 | global g => cases e
theorem FR.put {γ' : Pl} {L' : List Obj} {h' : Heap} (hf : FR P W0 γ L h a fa) (c : Carry W0 γ L h γ' L' h') {d : DV} {v : Value} (hd : DR P (qd W0 γ' L' h') γ' L' h' d v) (t : Option Tmp) : FR P W0 γ' L' h' (a.put t d) (fa.put t v) := by
 cases t with
 | none => exact ⟨hf.n, hf.cnt, fun t d e => by obtain ⟨v, e1, r⟩ := hf.slots t d e; exact ⟨v, e1, c.dr r⟩⟩
 | some t =>
  unfold DFrm.put Frm.put
  rw [hf.n]
  by_cases ht : t < a.n
  ·simp only [ht, if_true]
   refine ⟨rfl, hf.cnt, fun u w e => ?_⟩
   simp only [qW] at e
   simp only [Frm.get, Z4]
   by_cases hu : t = u
   ·subst hu
    simp at e ⊢
    subst e
    exact hd
   ·rw [if_neg hu] at e
    rw [if_neg (Ne.symm hu)]
    obtain ⟨v, e1, r⟩ := hf.slots u w e
    exact ⟨v, e1, c.dr r⟩
  ·simp only [ht, if_false]
   exact ⟨hf.n, hf.cnt, fun t d e => by obtain ⟨v, e1, r⟩ := hf.slots t d e; exact ⟨v, e1, c.dr r⟩⟩
theorem a5u {S : Nat → Prop} : DR P S γ L h abI undef := ⟨#[], rfl, .nil⟩
theorem a0w (hf : FR P W0 γ L h a fa) {t : Option Tmp} {want b : Bool} (e : KS t want a = some b) : zo t want fa = some b := by
 unfold KS at e
 unfold zo
 split at e
 ·rename_i t
  split at e
  ·rename_i c hc
   cases e
   obtain ⟨v, e1, r⟩ := hf.slots _ _ hc
   have : v = .bool c := PR.scal (P := P) (S := qd W0 γ L h) (h := h) r
   subst this
   simp only [e1]
  ·rename_i xs hc
   cases e
   obtain ⟨v, e1, vs, rfl, _⟩ := hf.slots _ _ hc
   simp only [e1]
  ·cases e
 ·cases e
def Sim (P : Program) (h0 : Heap) (W0 : Ent) (K : DFrm → List Obj → Prop) (fa : Frm) (h : Heap) : Prop := ∃ a L γ, K a L ∧ Hp P h0 W0 γ L h ∧ FR P W0 γ L h a fa
theorem vN (H : Hp P h0 W0 γ L h) (hf : FR P W0 γ L h a fa) {o : Op} {d : DV} (e : KB P o a.ev L = some d) : ∃ v, qR P o fa.ev h = some v ∧ (DR P (qd W0 γ L h) γ L h) d v := by
 unfold KB at e
 unfold qR
 split at e
 ·split at e
  ·rename_i p hp
   obtain ⟨v, e1, r1⟩ := hf.rho _ _ hp
   simp only [e1]
   exact Qo H r1 e
  ·cases e
 ·split at e
  ·rename_i x t hx ht
   obtain ⟨vs, e1, r1⟩ := zn hf.rho hx
   cases r1 with
   | cons hd tl =>
    cases tl
    simp only [e1, ht]
    exact xu H hd e
  ·cases e
 ·cases e
theorem a7N (H : Hp P h0 W0 γ L h) (hf : FR P W0 γ L h a fa) {c : C} (hk : ab7 P c a L) : YP P c fa h := by
 have one : Xg P c a L → (wA fa c.d).isSome = true ∧ qR P c.op fa.ev h = wA fa c.d := by
  intro hk
  rcases hk with hk | ⟨id, off, e1, e3⟩
  case inr =>
   obtain ⟨v, f1, r1⟩ := vN H hf e1
   obtain ⟨b, g1, -, rfl⟩ := (show DB P (qd W0 γ L h) γ L h (.ptr id off) v from r1)
   cases hc : c.d with
   | none => rw [hc] at e3; cases e3
   | some t =>
    rw [hc] at e3
    obtain ⟨u, f2, r2⟩ := hf.slots t _ e3
    obtain ⟨b', g2, -, rfl⟩ := (show DB P (qd W0 γ L h) γ L h (.ptr id off) u from r2)
    rw [g1] at g2
    cases g2
    simp only [wA]
    rw [f1, f2]
    exact ⟨rfl, rfl⟩
  obtain ⟨d, e1, hk⟩ := qe hk
  obtain ⟨x, e2, hk⟩ := qe hk
  obtain ⟨d', e3, hk⟩ := qe hk
  obtain ⟨y, e4, rfl⟩ := qe hk
  obtain ⟨v, f1, r1⟩ := vN H hf e1
  have := kS r1 e2
  rw [this] at f1
  cases hc : c.d with
  | none => rw [hc] at e3; cases e3
  | some t =>
   rw [hc] at e3
   obtain ⟨u, f2, r2⟩ := hf.slots t d' e3
   have := kS r2 e4
   rw [this] at f2
   simp only [wA]
   rw [f1, f2]
   exact ⟨rfl, rfl⟩
 unfold ab7 at hk
 unfold YP
 cases hg : c.g with
 | none => simp only [hg] at hk ⊢; exact one hk
 | some p =>
  obtain ⟨t, want⟩ := p
  simp only [hg] at hk ⊢
  cases hv : KS t want a with
  | none => rw [hv] at hk; exact hk.elim
  | some b =>
   rw [hv] at hk
   cases b
   ·exact .inl (a0w hf hv)
   ·exact .inr (one (hk.1 rfl))
abbrev DQ := Exit → DFrm → List Obj → Prop
def aj7 (P : Program) (h0 : Heap) (W0 : Ent) (Q : DQ) (e : Exit) (fa : Frm) (h : Heap) : Prop := Sim P h0 W0 (Q e) fa h
def DAWp (P : Program) (c : Code) (Q : DQ) (a : DFrm) (L : List Obj) : Prop :=
 ∀ h0 W0 γ h fa, Hp P h0 W0 γ L h → FR P W0 γ L h a fa → AWp P c (aj7 P h0 W0 Q) fa h
def KJ (K : DFrm → List Obj → Prop) (Q : DQ) : DQ
 | .normal, a, L => K a L
 | e, a, L => Q e a L
def a9l (id : Nat) (Q : DQ) : DQ
 | .exit id', a, L => if id' = id then Q .normal a L else Q (.exit id') a L
 | e, a, L => Q e a L
def adE (P : Program) (x : X) (Q : DQ) (a : DFrm) (L : List Obj) : Prop := ∀ c, xOf P c .nil = x → DAWp P (.loop c) Q a L
def a95 (P : Program) (x labs : X) (Q : DQ) (a : DFrm) (L : List Obj) : Prop := ∀ c, xOf P c .nil = x → yr P c .nil .nil = labs → DAWp P (.scope c) Q a L
def agA (P : Program) (f : Operand) (ps : List Tmp) (c d : Code) (Q : DQ) (a : DFrm) (L : List Obj) : Prop := DAWp P (.rangeFunc f ps.toArray c d) Q a L
def vO (o : Option DV) (A B : Prop) : Prop := match o with
 | some (.p (.v (.bool b))) => (b = true → A) ∧ (b = false → B)
 | _ => False
def KW (K : DFrm → List Obj → Prop) (a : DFrm) (L : List Obj) : Prop := ∃ l', (∀ t d, qW t l' = some d → qW t a.l = some d) ∧ K ⟨a.n, a.c, l'⟩ L
theorem FR.sub (hf : FR P W0 γ L h a fa) {l' : List (Nat × DV)} (hs : ∀ t d, qW t l' = some d → qW t a.l = some d) : FR P W0 γ L h ⟨a.n, a.c, l'⟩ fa := ⟨hf.n, hf.cnt, fun t d e => hf.slots t d (hs t d e)⟩
theorem KW.refl {K : DFrm → List Obj → Prop} {a : DFrm} {L : List Obj} (h : K a L) : KW K a L := ⟨a.l, fun _ _ e => e, h⟩
def y2 (P : Program) : X → DQ → DFrm → List Obj → Prop
 | .nil, Q, a, L => Q .normal a L
 | .ret, Q, a, L => Q .ret a L
 | .exit id, Q, a, L => Q (.exit id) a L
 | .goto l, Q, a, L => Q (.goto l) a L
 | .bad, _, _, _ => False
 | .reg l k, Q, a, L => z3 P l (KW fun a L => y2 P k Q a L) a L
 | .draw l k, Q, a, L => a0z P l (KW fun a L => y2 P k Q a L) a L
 | .cond c x y k, Q, a, L => vO (a.ev c) (KW (y2 P x (KJ (KW fun a L => y2 P k Q a L) Q)) a L) (KW (y2 P y (KJ (KW fun a L => y2 P k Q a L) Q)) a L)
 | .block id x k, Q, a, L => y2 P x (a9l id (KJ (KW fun a L => y2 P k Q a L) Q)) a L
 | .loop x k, Q, a, L => adE P x (KJ (KW fun a L => y2 P k Q a L) Q) a L
 | .lcons _ _ _, _, _, _ => False
 | .scope x labs k, Q, a, L => a95 P x labs (KJ (KW fun a L => y2 P k Q a L) Q) a L
 | .label _ k, Q, a, L => y2 P k Q a L
 | .range f ps x y k, Q, a, L => agA P f ps x y (KJ (KW fun a L => y2 P k Q a L) Q) a L
end
def Kg (P : Program) (x : X) (Q : DQ) (a : DFrm) (L : List Obj) : Prop := KW (y2 P x Q) a L
end Go.Sim
