/- Part 11 of the claim EmuDoes: V35, V36, V37, V38, LDoes -/
import Derived.Test.YtaamhddpmbombaaGreatW10
set_option linter.unusedSimpArgs false
set_option linter.unusedVariables false
set_option linter.defProp false
noncomputable section
set_option maxRecDepth 100000
set_option maxHeartbeats 4000000
namespace Go.Sim
section
variable {L : qu} {cols row col : Nat}
theorem adq (hG : GOk L cols) (hr : row < L.length) (hc : col < cols) (kd r : Int) (es : List Int) (h0 h1 h2 n st p1 p2 : Int) {p3 : Int} (hb : u8r p3) (w : Bool) (ns : List Int) :
  WJ (kd, r, es) (h0, h1, h2, n, st, p1, p2, p3, w) ((row : Int), (col : Int), (cols : Int)) L ns = some ((h0, h1, h2, n, st, p1, p2, p3, w), ((row : Int), (col : Int), (cols : Int)), VD (J7 L cols row p3 (j8 es 0 0) L.length) cols row col p3 (j8 es 0 0), ns) := by
 have hrows := hG.rows
 have hwide := hG.wide
 have hn := vp kd r es 0 0
 have z0 : ((0 : Nat) : Int) = 0 := rfl
 rw [z0] at hn
 have main : vx ((j8 es 0 0, ((L.length : Int), (0 : Int))), ((h0, h1, h2, n, st, p1, p2, p3, w), (((row : Int), (col : Int), (cols : Int)), (L, (ns, (kd, r, es)))))) = some ((h0, h1, h2, n, st, p1, p2, p3, w), ((row : Int), (col : Int), (cols : Int)), VD (J7 L cols row p3 (j8 es 0 0) L.length) cols row col p3 (j8 es 0 0), ns) := by
  refine zu (step := fun s => kg s.1 s.2.1 s.2.2.1 s.2.2.2.1 s.2.2.2.2.1 s.2.2.2.2.2.1 s.2.2.2.2.2.2.1 s.2.2.2.2.2.2.2) (st := fun i => ((j8 es 0 0, ((L.length : Int), ((i : Nat) : Int))), ((h0, h1, h2, n, st, p1, p2, p3, w), (((row : Int), (col : Int), (cols : Int)), (J7 L cols row p3 (j8 es 0 0) i, (ns, (kd, r, es))))))) (n := L.length) (fun i hi => ?_) ?_ 0 (by omega)
  ·show kg _ _ _ _ _ _ _ _ = _
   obtain ⟨q1, q2⟩ := Wx hG row hb (j8 es 0 0) i
   have e : ((i : Int) + 1) = ((i + 1 : Nat) : Int) := by omega
   have e2 : J7 L cols row p3 (j8 es 0 0) (i + 1) = if j8 es 0 0 = 2 ∨ j8 es 0 0 = 0 ∧ row < i ∨ j8 es 0 0 = 1 ∧ i < row then uX (J7 L cols row p3 (j8 es 0 0) i) (i : Int) 0 cols p3 else J7 L cols row p3 (j8 es 0 0) i := rfl
   rw [e2]
   have a1 := a1X q1 (i : Int) 0 (cols : Int) p3 ((row : Int), (col : Int), (cols : Int))
   generalize J7 L cols row p3 (j8 es 0 0) i = A at *
   generalize j8 es 0 0 = k at *
   unfold kg
   by_cases k2 : k = 2
   ·rw [if_pos (.inl k2)]
    simp (disch := omega) only [q8, qh, qD, qw, q9, qd, qf, qj, qp, qr, qC, qS, a1, e]
   ·by_cases k0 : k = 0
    ·by_cases h : row < i
     ·rw [if_pos (.inr (.inl ⟨k0, h⟩))]
      simp (disch := omega) only [q8, qh, qm, qD, qw, q9, qd, qf, qj, qp, qr, qC, qS, a1, e]
     ·rw [if_neg (by omega)]
      simp (disch := omega) only [q8, qh, qm, qD, qw, q9, qd, qf, qj, qp, qr, qC, qS, a1, e]
    ·by_cases k1 : k = 1
     ·by_cases h : i < row
      ·rw [if_pos (.inr (.inr ⟨k1, h⟩))]
       simp (disch := omega) only [q8, qh, qm, qD, qw, q9, qd, qf, qj, qp, qr, qC, qS, a1, e]
      ·rw [if_neg (by omega)]
       simp (disch := omega) only [q8, qh, qm, qD, qw, q9, qd, qf, qj, qp, qr, qC, qS, a1, e]
     ·rw [if_neg (by omega)]
      simp (disch := omega) only [q8, qh, qw, q9, qd, qf, qj, qp, qr, qC, qS, a1, e]
  ·show kg _ _ _ _ _ _ _ _ = _
   obtain ⟨q1, q2⟩ := Wx hG row hb (j8 es 0 0) L.length
   have a1 := a6e (row := row) q1 (by omega) hc kd r es h0 h1 h2 n st p1 p2 p3 w ns
   unfold kg
   simp (disch := omega) only [q8, qm, q9, qd, qf, qj, qp, a1]
 unfold WJ
 simp (disch := omega) only [q8, qd, qj, qp, hn, ke, main]
theorem abu (hG : GOk L cols) (hr : row < L.length) (hc : col < cols) (x : Int × (Int × List Int)) (k : Int) (s : Int) (ns hd : List Int) (p1 p2 p3 : Int) (w : Bool) (z1 z2 z3 z4 z5 z6 : Int) (z7 : Bool) :
  zn ((cols : Int), k, (L.length : Int)) (L, (row : Int), (col : Int), s, ns, hd, p1, p2, p3, w) x z1 z2 z3 z4 z5 z6 z7 = some (.inr (VD L cols row col p3 k, (row : Int), (col : Int), s, ns, hd, p1, p2, p3, w)) := by
 have hrows := hG.rows
 have hwide := hG.wide
 have a1 := fun r f t => a6j hG r f t row col s ns hd p1 p2 p3 w
 have e : (col : Int) + 1 = ((col + 1 : Nat) : Int) := by omega
 unfold zn VD
 by_cases k0 : k = 0
 ·rw [if_pos k0]
  simp (disch := omega) only [q8, qh, qm, qD, qw, q9, qd, qf, qj, a1]
 ·rw [if_neg k0]
  by_cases k1 : k = 1
  ·rw [if_pos k1]
   simp (disch := omega) only [q8, qh, qm, qD, qw, q9, qd, qf, qj, a1, e]
  ·rw [if_neg k1]
   by_cases k2 : k = 2
   ·rw [if_pos k2]
    simp (disch := omega) only [q8, qh, qm, qD, qw, q9, qd, qf, qj, a1]
   ·rw [if_neg k2]
    simp (disch := omega) only [q8, qh, qm, qw, q9, qd, qf, qj]
theorem ahg (hG : GOk L cols) (hr : row < L.length) (hc : col < cols) (kd k : Int) (es : List Int) (s : Int) (ns hd : List Int) (p1 p2 : Int) {p3 : Int} (hb : u8r p3) (w : Bool) (z1 z2 z3 z4 z5 z6 : Int) (z7 : Bool) :
  Jx (((cols : Int), (k, (0 : Int))), ((L, (row : Int), (col : Int), s, ns, hd, p1, p2, p3, w), ((kd, 74, es), (z1, (z2, (z3, (z4, (z5, (z6, z7)))))))))
   = some (VD (J7 L cols row p3 k L.length) cols row col p3 k, (row : Int), (col : Int), s, ns, hd, p1, p2, p3, w) := by
 have hrows := hG.rows
 have hwide := hG.wide
 refine zu (step := fun s => zn s.1 s.2.1 s.2.2.1 s.2.2.2.1 s.2.2.2.2.1 s.2.2.2.2.2.1 s.2.2.2.2.2.2.1 s.2.2.2.2.2.2.2.1 s.2.2.2.2.2.2.2.2.1 s.2.2.2.2.2.2.2.2.2) (st := fun i => (((cols : Int), (k, ((i : Nat) : Int))), ((J7 L cols row p3 k i, (row : Int), (col : Int), s, ns, hd, p1, p2, p3, w), ((kd, 74, es), (z1, (z2, (z3, (z4, (z5, (z6, z7)))))))))) (n := L.length) (fun i hi => ?_) ?_ 0 (by omega)
 ·show zn _ _ _ _ _ _ _ _ _ _ = _
  obtain ⟨q1, q2⟩ := Wx hG row hb k i
  have e : ((i : Int) + 1) = ((i + 1 : Nat) : Int) := by omega
  have e2 : J7 L cols row p3 k (i + 1) = if k = 2 ∨ k = 0 ∧ row < i ∨ k = 1 ∧ i < row then uX (J7 L cols row p3 k i) (i : Int) 0 cols p3 else J7 L cols row p3 k i := rfl
  rw [e2]
  have a1 := a6j q1 (i : Int) 0 (cols : Int) row col s ns hd p1 p2 p3 w
  generalize J7 L cols row p3 k i = A at *
  unfold zn
  by_cases k2 : k = 2
  ·rw [if_pos (.inl k2)]
   simp (disch := omega) only [q8, qh, qD, qw, q9, qd, qf, qj, a1, e, beq_self_eq_true]
  ·by_cases k0 : k = 0
   ·by_cases h : row < i
    ·rw [if_pos (.inr (.inl ⟨k0, h⟩))]
     simp (disch := omega) only [q8, qh, qm, qD, qw, q9, qd, qf, qj, a1, e, beq_self_eq_true]
    ·rw [if_neg (by omega)]
     simp (disch := omega) only [q8, qh, qm, qD, qw, q9, qd, qf, qj, a1, e, beq_self_eq_true]
   ·by_cases k1 : k = 1
    ·by_cases h : i < row
     ·rw [if_pos (.inr (.inr ⟨k1, h⟩))]
      simp (disch := omega) only [q8, qh, qm, qD, qw, q9, qd, qf, qj, a1, e, beq_self_eq_true]
     ·rw [if_neg (by omega)]
      simp (disch := omega) only [q8, qh, qm, qD, qw, q9, qd, qf, qj, a1, e, beq_self_eq_true]
    ·rw [if_neg (by omega)]
     simp (disch := omega) only [q8, qh, qw, q9, qd, qf, qj, a1, e, beq_self_eq_true]
 ·obtain ⟨q1, q2⟩ := Wx hG row hb k L.length
  have := abu (row := row) q1 (by omega) hc (kd, 74, es) k s ns hd p1 p2 p3 w z1 z2 z3 z4 z5 z6 z7
  rw [q2] at this
  exact this
theorem afA (hG : GOk L cols) (hr : row < L.length) (hc : col < cols) (kd k : Int) (es : List Int) (s : Int) (ns hd : List Int) (p1 p2 p3 : Int) (w : Bool) (z1 z2 z3 z4 z5 z6 : Int) (z7 : Bool) :
  Jx (((cols : Int), (k, (0 : Int))), ((L, (row : Int), (col : Int), s, ns, hd, p1, p2, p3, w), ((kd, 75, es), (z1, (z2, (z3, (z4, (z5, (z6, z7)))))))))
   = some (VD L cols row col p3 k, (row : Int), (col : Int), s, ns, hd, p1, p2, p3, w) := by
 have hrows := hG.rows
 refine zu (step := fun s => zn s.1 s.2.1 s.2.2.1 s.2.2.2.1 s.2.2.2.2.1 s.2.2.2.2.2.1 s.2.2.2.2.2.2.1 s.2.2.2.2.2.2.2.1 s.2.2.2.2.2.2.2.2.1 s.2.2.2.2.2.2.2.2.2) (st := fun i => (((cols : Int), (k, ((i : Nat) : Int))), ((L, (row : Int), (col : Int), s, ns, hd, p1, p2, p3, w), ((kd, 75, es), (z1, (z2, (z3, (z4, (z5, (z6, z7)))))))))) (n := L.length) (fun i hi => ?_) ?_ 0 (by omega)
 ·show zn _ _ _ _ _ _ _ _ _ _ = _
  have e : ((i : Int) + 1) = ((i + 1 : Nat) : Int) := by omega
  unfold zn
  simp (disch := omega) only [q8, qh, qw, q9, qd, qf, e]
 ·exact abu hG hr hc (kd, 75, es) k s ns hd p1 p2 p3 w z1 z2 z3 z4 z5 z6 z7
end
def y5 (v : Int) : Int := if v = -1 then 0 else v
def Zq (p : Int × (Int × Int)) (es : List Int) : Int × (Int × Int) := if es.length = 0 then (0, (0, 0)) else yD p (es.map y5)
theorem ac4 {es : List Int} {i : Nat} {v : Int} (h : es[i]? = some v) : j8 es i 0 = y5 v := by unfold j8 y5; rw [h]
theorem abE {es : List Int} (h : ∀ v ∈ es, Zj v) : ∀ v ∈ es.map y5, Zj v := by
 intro v hv
 obtain ⟨u, hu, rfl⟩ := List.mem_map.1 hv
 have := h u hu
 unfold y5
 split
 ·unfold Zj; omega
 ·exact this
theorem ab7 {kd r : Int} {es : List Int} (hl : es.length ≤ 1000) (he : ∀ v ∈ es, Zj v) (h0 h1 h2 n st : Int) {p1 p2 p3 : Int} (hp : PenOk (p1, p2, p3)) (w : Bool) (g : Int × (Int × Int)) (L : qu) (ns : List Int) :
  KG (kd, r, es) (h0, h1, h2, n, st, p1, p2, p3, w) g L ns = some ((h0, h1, h2, n, st, (Zq (p1, p2, p3) es).1, (Zq (p1, p2, p3) es).2.1, (Zq (p1, p2, p3) es).2.2, w), g, L, ns) := by
 have hcl : QA es = some es := by
  unfold QA
  by_cases h : es.length = 0
  ·have : es = [] := List.length_eq_zero_iff.1 h
   subst this
   simp (disch := omega) only [q8, qh, qd, qM, qp, true_and, Uo, List.append_nil]
  ·simp (disch := omega) only [q8, qh, qm, qd, qf, qp, true_and, List.nil_append, Nat.zero_add]
 have ht := a9d hp (l := es.map y5) (by rw [List.length_map]; omega) (abE he)
 rw [List.length_map] at ht
 have main : Yn (((es.length : Int), (0 : Int)), ((h0, h1, h2, n, st, p1, p2, p3, w), (g, (L, (ns, ((kd, r, es), es)))))) = some ((h0, h1, h2, n, st, (Zq (p1, p2, p3) es).1, (Zq (p1, p2, p3) es).2.1, (Zq (p1, p2, p3) es).2.2, w), g, L, ns) := by
  refine zu (step := fun s => zY s.1 s.2.1 s.2.2.1 s.2.2.2.1 s.2.2.2.2.1 s.2.2.2.2.2.1 s.2.2.2.2.2.2) (st := fun i => (((es.length : Int), ((i : Nat) : Int)), ((h0, h1, h2, n, st, p1, p2, p3, w), (g, (L, (ns, ((kd, r, es), ((es.map y5).take i ++ es.drop i)))))))) (n := es.length) (fun i hi => ?_) ?_ 0 (by omega)
  ·show zY _ _ _ _ _ _ _ = _
   obtain ⟨v, hv⟩ := qF hi
   have e : ((i : Int) + 1) = ((i + 1 : Nat) : Int) := by omega
   have hlen : ((es.map y5).take i ++ es.drop i).length = es.length := by simp only [q8, ze, List.length_take, jo, List.length_drop]; omega
   have hget : ((es.map y5).take i ++ es.drop i)[i]? = some v := by
    rw [List.getElem?_append_right (by rw [List.length_take, List.length_map]; omega), List.length_take, List.length_map, List.getElem?_drop, show i + (i - min i es.length) = i by omega]
    exact hv
   have hset : ((es.map y5).take i ++ es.drop i).set i (y5 v) = (es.map y5).take (i + 1) ++ es.drop (i + 1) := by
    have hd : es.drop i = v :: es.drop (i + 1) := by
     obtain ⟨g1, g2⟩ := List.getElem?_eq_some_iff.1 hv
     rw [← g2]
     exact List.drop_eq_getElem_cons g1
    have hm : (es.map y5)[i]? = some (y5 v) := by rw [List.getElem?_map, hv]; rfl
    rw [kA hm, hd, List.append_assoc, List.singleton_append]
    have hi2 : i = ((es.map y5).take i).length := by rw [List.length_take, List.length_map]; omega
    rw [List.set_append_right _ _ (by omega), show i - ((es.map y5).take i).length = 0 by omega]
    rfl
   have hn := vp kd r es i 0
   rw [ac4 hv] at hn
   have hl2 : ((es.map y5).take (i + 1) ++ es.drop (i + 1)).length = es.length := by simp only [q8, ze, List.length_take, jo, List.length_drop]; omega
   unfold zY
   generalize (es.map y5).take i ++ es.drop i = A at *
   generalize (es.map y5).take (i + 1) ++ es.drop (i + 1) = B at *
   simp (disch := omega) only [q8, qh, q9, qd, qj, qH, qp, and_true, hn, hget, hset, hlen, hl2, e]
  ·show zY _ _ _ _ _ _ _ = _
   have ee : (es.map y5).take es.length ++ es.drop es.length = es.map y5 := by
    rw [List.drop_length, List.append_nil, List.take_of_length_le (by simp)]
   unfold zY Zq
   rw [ee]
   simp (disch := omega) only [q8, qh, qm, q9, qd, qf, qj, qH, jo, qp, and_true, ht]
 unfold KG
 simp (disch := omega) only [q8, qd, qj, qp, hcl, main]
theorem acI {kd r : Int} {es : List Int} (hl : es.length ≤ 1000) (he : ∀ v ∈ es, Zj v) (L : qu) (a b s : Int) (ns hd : List Int) {p1 p2 p3 : Int} (hp : PenOk (p1, p2, p3)) (w : Bool) (z : Int × (Int × a1f)) :
  xz ((0 : Int), ((L, a, b, s, ns, hd, p1, p2, p3, w), ((kd, r, es), (z, [])))) = some (L, a, b, s, ns, hd, (Zq (p1, p2, p3) es).1, (Zq (p1, p2, p3) es).2.1, (Zq (p1, p2, p3) es).2.2, w) := by
 have ht := ahT hp (l := es.map y5) (by rw [List.length_map]; omega) (abE he)
 rw [List.length_map] at ht
 refine zu (step := fun s => kD s.1 s.2.1 s.2.2.1 s.2.2.2.1 s.2.2.2.2) (st := fun i => (((i : Nat) : Int), ((L, a, b, s, ns, hd, p1, p2, p3, w), ((kd, r, es), (z, (es.map y5).take i))))) (n := es.length) (fun i hi => ?_) ?_ 0 (by omega)
 ·show kD _ _ _ _ _ = _
  obtain ⟨v, hv⟩ := qF hi
  have e : ((i : Int) + 1) = ((i + 1 : Nat) : Int) := by omega
  have hm : (es.map y5)[i]? = some (y5 v) := by rw [List.getElem?_map, hv]; rfl
  have hn := XL kd r es i 0
  rw [ac4 hv] at hn
  have hle : ((es.map y5).take i).length ≤ 1000 := by rw [List.length_take, List.length_map]; omega
  rw [kA hm]
  unfold kD
  generalize (es.map y5).take i = A at *
  simp (disch := omega) only [q8, qh, q9, qd, qj, ze, zB, qM, qp, true_and, hn, e]
 ·show kD _ _ _ _ _ = _
  have ee : (es.map y5).take es.length = es.map y5 := List.take_of_length_le (by simp)
  unfold kD Zq
  rw [ee]
  simp (disch := omega) only [q8, qh, qm, q9, qd, qf, qj, ze, zB, qM, jo, qp, true_and, ht]
theorem a5f {p : Int × (Int × Int)} (h : PenOk p) (es : List Int) : PenOk (Zq p es) := by
 unfold Zq
 split
 ·exact acb
 ·exact Zx h _
abbrev EmS : Type := qu × (Nat × (Nat × (Y6_ × Bool)))
abbrev EvT : Type := Int × (Int × List Int)
def doQ (L : qu) (cols row col : Nat) (p : Int × (Int × Int)) (w : Bool) (kd r : Int) (es : List Int) : EmS :=
 if kd = 1 then ((jl L cols row col p w r).1, (jl L cols row col p w r).2.1, (jl L cols row col p w r).2.2.1, p, (jl L cols row col p w r).2.2.2)
 else if kd = 2 then (if r = 13 then (L, row, 0, p, false) else if r = 10 then ((Q3 L cols row p.2.2).1, (Q3 L cols row p.2.2).2, col, p, false) else if r = 8 then (L, row, col - 1, p, false) else (L, row, col, p, w))
 else if kd = 3 then
  (if r = 65 then (L, qO ((row : Int) - yF es 0) L.length, col, p, false)
  else if r = 66 then (L, qO ((row : Int) + yF es 0) L.length, col, p, false)
  else if r = 67 then (L, row, qO ((col : Int) + yF es 0) cols, p, false)
  else if r = 68 then (L, row, qO ((col : Int) - yF es 0) cols, p, false)
  else if r = 72 then (L, qO (yF es 0 - 1) L.length, qO (yF es 1 - 1) cols, p, false)
  else if r = 74 then (VD (J7 L cols row p.2.2 (j8 es 0 0) L.length) cols row col p.2.2 (j8 es 0 0), row, col, p, w)
  else if r = 75 then (VD L cols row col p.2.2 (j8 es 0 0), row, col, p, w)
  else if r = 109 then (L, row, col, Zq p es, w)
  else (L, row, col, p, w))
 else (L, row, col, p, w)
structure EmOk (rows cols : Nat) (s : EmS) : Prop where
 g : GOk s.1 cols
 len : s.1.length = rows
 row : s.2.1 < rows
 col : s.2.2.1 < cols
 pen : PenOk s.2.2.2.1
structure EvOk (x : EvT) : Prop where
 r : Z4 x.2.1
 n : x.2.2.length ≤ 1000
 i : ∀ v ∈ x.2.2, Zj v
theorem a93 {p : Int × (Int × Int)} (h : PenOk p) : u8r p.2.2 := by have := h.ba; unfold u8r; omega
theorem akl {rows cols row col : Nat} {L : qu} {p : Int × (Int × Int)} {w : Bool} (h : EmOk rows cols (L, row, col, p, w)) {kd r : Int} {es : List Int} (hx : EvOk (kd, r, es)) : EmOk rows cols (doQ L cols row col p w kd r es) := by
 have hG := h.g
 have hlen : L.length = rows := h.len
 have hr : row < rows := h.row
 have hc : col < cols := h.col
 have hp : PenOk p := h.pen
 have hr' : row < L.length := by omega
 have hb := a93 hp
 have hrows := hG.rows
 have hwide := hG.wide
 have hrows' : 1 ≤ L.length := hrows.1
 have hwide' : 1 ≤ cols := hwide.1
 have hR : ∀ n : Int, qO n L.length < rows := fun n => by have := a6d (n := n) hrows'; omega
 have hC : ∀ n : Int, qO n cols < cols := fun n => a6d hwide'
 unfold doQ
 split
 ·obtain ⟨q1, q2, q3, q4⟩ := ads hG hr' hc hp w hx.r
  exact ⟨q1, q2.trans hlen, by rw [← hlen]; exact q3, q4, hp⟩
 ·split
  ·split
   ·exact ⟨hG, hlen, hr, by show 0 < cols; omega, hp⟩
   ·split
    ·obtain ⟨q1, q2, q3⟩ := vb hG hr' hb
     exact ⟨q1, q2.trans hlen, by rw [← hlen]; exact q3, hc, hp⟩
    ·split
     ·exact ⟨hG, hlen, hr, by show col - 1 < cols; omega, hp⟩
     ·exact h
  ·split
   ·split
    ·exact ⟨hG, hlen, hR _, hc, hp⟩
    ·split
     ·exact ⟨hG, hlen, hR _, hc, hp⟩
     ·split
      ·exact ⟨hG, hlen, hr, hC _, hp⟩
      ·split
       ·exact ⟨hG, hlen, hr, hC _, hp⟩
       ·split
        ·exact ⟨hG, hlen, hR _, hC _, hp⟩
        ·split
         ·obtain ⟨q1, q2⟩ := Wx hG row hb (j8 es 0 0) L.length
          obtain ⟨q3, q4⟩ := abP q1 row col hb (j8 es 0 0)
          exact ⟨q3, (q4.trans q2).trans hlen, hr, hc, hp⟩
         ·split
          ·obtain ⟨q3, q4⟩ := abP hG row col hb (j8 es 0 0)
           exact ⟨q3, q4.trans hlen, hr, hc, hp⟩
          ·split
           ·exact ⟨hG, hlen, hr, hc, a5f hp es⟩
           ·exact h
   ·exact h
theorem ajw {rows cols row col : Nat} {L : qu} {p : Int × (Int × Int)} {w : Bool} (h : EmOk rows cols (L, row, col, p, w)) {kd r : Int} {es : List Int} (hx : EvOk (kd, r, es)) {l : List EvT} {i : Nat} (hl : l.length ≤ 1000000) (hi : l[i]? = some (kd, r, es)) (h0 h1 h2 n st : Int) (ns : List Int) :
  kC (l, ((l.length : Int), (i : Int))) (h0, h1, h2, n, st, p.1, p.2.1, p.2.2, w) ((row : Int), (col : Int), (cols : Int)) L ns =
   some (.inl ((l, ((l.length : Int), ((i + 1 : Nat) : Int))), ((h0, h1, h2, n, st, (doQ L cols row col p w kd r es).2.2.2.1.1, (doQ L cols row col p w kd r es).2.2.2.1.2.1, (doQ L cols row col p w kd r es).2.2.2.1.2.2, (doQ L cols row col p w kd r es).2.2.2.2), (((doQ L cols row col p w kd r es).2.1 : Int), ((doQ L cols row col p w kd r es).2.2.1 : Int), (cols : Int)), (doQ L cols row col p w kd r es).1, ns))) := by
 obtain ⟨p1, p2, p3⟩ := p
 have hG : GOk L cols := h.g
 have hlen : L.length = rows := h.len
 have hr : row < rows := h.row
 have hc : col < cols := h.col
 have hp : PenOk (p1, p2, p3) := h.pen
 have hr' : row < L.length := by omega
 have hb : u8r p3 := a93 hp
 have hrows := hG.rows
 have hwide := hG.wide
 have hil : i < l.length := (List.getElem?_eq_some_iff.1 hi).1
 have e : ((i : Int) + 1) = ((i + 1 : Nat) : Int) := by omega
 have z0 : ((0 : Nat) : Int) = 0 := rfl
 have z1 : ((1 : Nat) : Int) = 1 := rfl
 have ht0 := a6A kd r es 0
 have ht1 := a6A kd r es 1
 rw [z0] at ht0
 rw [z1] at ht1
 have hle0 := a0d es 0
 have hle1 := a0d es 1
 have hmv := fun dr dc a b => a9p hG hr' hc (dr := dr) (dc := dc) a b h0 h1 h2 n st p1 p2 p3 w ns
 have er : (row : Int) + 0 = row := by omega
 have ec : (col : Int) + 0 = col := by omega
 have br := Q6 hr'
 have bc := Q6 hc
 unfold kC doQ
 by_cases k1 : kd = 1
 ·rw [if_pos k1]
  have a1 := a9g hG hr' hc hx.r h0 h1 h2 n st hp w ns
  simp (disch := omega) only [q8, qh, qD, qw, q9, qd, qf, qj, qH, qp, hi, a1, e]
 ·rw [if_neg k1]
  by_cases k2 : kd = 2
  ·rw [if_pos k2]
   unfold K1
   by_cases r1 : r = 13
   ·rw [if_pos r1]
    have a1 := a4t hG (row : Int) 0 row col
    have b0 : qO (0 : Int) cols = 0 := by unfold qO; omega
    rw [br, b0] at a1
    simp (disch := omega) only [q8, qh, qm, qD, qw, q9, qd, qf, qj, qH, qp, hi, qr, a1, e]
   ·rw [if_neg r1]
    by_cases r2 : r = 10
    ·rw [if_pos r2]
     have a1 := a1L hG hr' hc h0 h1 h2 n st p1 p2 p3 w ns
     simp (disch := omega) only [q8, qh, qm, qD, qw, q9, qd, qf, qj, qH, qp, hi, a1, e]
    ·rw [if_neg r2]
     by_cases r3 : r = 8
     ·rw [if_pos r3]
      have a1 := a4t hG (row : Int) ((col : Int) - 1) row col
      have b0 : qO ((col : Int) - 1) cols = col - 1 := by unfold qO; omega
      rw [br, b0] at a1
      simp (disch := omega) only [q8, qh, qm, qD, qw, q9, qd, qf, qj, qH, qp, hi, qr, qB, a1, e]
     ·rw [if_neg r3]
      simp (disch := omega) only [q8, qh, qD, qw, q9, qd, qf, qj, qH, qp, hi, e]
  ·rw [if_neg k2]
   by_cases k3 : kd = 3
   ·rw [if_pos k3]
    by_cases r1 : r = 65
    ·rw [if_pos r1]
     have a1 := hmv (0 - yF es 0) 0 (by omega) (by omega)
     rw [ec, bc, show (row : Int) + (0 - yF es 0) = (row : Int) - yF es 0 by omega] at a1
     unfold ur
     simp (disch := omega) only [q8, qh, qm, qD, qw, q9, qd, qf, qj, qH, qp, hi, ht0, a1, e]
    ·rw [if_neg r1]
     by_cases r2 : r = 66
     ·rw [if_pos r2]
      have a1 := hmv (yF es 0) 0 (by omega) (by omega)
      rw [ec, bc] at a1
      unfold Wq
      simp (disch := omega) only [q8, qh, qm, qD, qw, q9, qd, qf, qj, qH, qp, hi, ht0, a1, e]
     ·rw [if_neg r2]
      by_cases r3 : r = 67
      ·rw [if_pos r3]
       have a1 := hmv 0 (yF es 0) (by omega) (by omega)
       rw [er, br] at a1
       unfold W4
       simp (disch := omega) only [q8, qh, qm, qD, qw, q9, qd, qf, qj, qH, qp, hi, ht0, a1, e]
      ·rw [if_neg r3]
       by_cases r4 : r = 68
       ·rw [if_pos r4]
        have a1 := hmv 0 (0 - yF es 0) (by omega) (by omega)
        rw [er, br, show (col : Int) + (0 - yF es 0) = (col : Int) - yF es 0 by omega] at a1
        unfold YI
        simp (disch := omega) only [q8, qh, qm, qD, qw, q9, qd, qf, qj, qH, qp, hi, ht0, a1, e]
       ·rw [if_neg r4]
        by_cases r5 : r = 72
        ·rw [if_pos r5]
         have a1 := a4t hG (yF es 0 - 1) (yF es 1 - 1) row col
         unfold W6
         simp (disch := omega) only [q8, qh, qm, qD, qw, q9, qd, qf, qj, qH, qp, hi, ht0, ht1, a1, e]
        ·rw [if_neg r5]
         by_cases r6 : r = 74
         ·rw [if_pos r6]
          have a1 := adq hG hr' hc kd r es h0 h1 h2 n st p1 p2 hb w ns
          simp (disch := omega) only [q8, qh, qm, qD, qw, q9, qd, qf, qj, qH, qp, hi, a1, e]
         ·rw [if_neg r6]
          by_cases r7 : r = 75
          ·rw [if_pos r7]
           have a1 := a6e hG hr' hc kd r es h0 h1 h2 n st p1 p2 p3 w ns
           simp (disch := omega) only [q8, qh, qm, qD, qw, q9, qd, qf, qj, qH, qp, hi, a1, e]
          ·rw [if_neg r7]
           by_cases r8 : r = 109
           ·rw [if_pos r8]
            have a1 := ab7 (kd := kd) (r := r) hx.n hx.i h0 h1 h2 n st hp w ((row : Int), (col : Int), (cols : Int)) L ns
            simp (disch := omega) only [q8, qh, qm, qD, qw, q9, qd, qf, qj, qH, qp, hi, a1, e]
           ·rw [if_neg r8]
            simp (disch := omega) only [q8, qh, qm, qD, qw, q9, qd, qf, qj, qH, qp, hi, e]
   ·rw [if_neg k3]
    simp (disch := omega) only [q8, qh, qw, q9, qd, qf, qj, qH, qp, hi, e]
theorem kO {A B : Type} (c : Bool) (a b : A) : (bif c then (some (Sum.inl a) : Option (A ⊕ B)) else some (Sum.inl b)) = some (Sum.inl (bif c then a else b)) := by cases c <;> rfl
theorem zZ {A B : Type} (c : Bool) (a a' : A) (b b' : B) : (bif c then (a, b) else (a', b')) = ((bif c then a else a'), (bif c then b else b')) := by cases c <;> rfl
theorem zX {A : Type} (c : Bool) (a : A) : (bif c then a else a) = a := by cases c <;> rfl
def atl (n : Int) : Int := if n < 1 then 1 else n
theorem wB (n : Int) : (bif decide (n < (1 : Int)) then (1 : Int) else n) = atl n := by unfold atl; by_cases h : n < 1 <;> simp [h]
theorem vE (es : List Int) (k : Nat) : (bif decide ((1000 : Int) < atl (j8 es k 1)) then (1000 : Int) else atl (j8 es k 1)) = Wh es k := by
 unfold atl Wh
 generalize j8 es k 1 = n
 by_cases h : n < 1
 ·simp [h]
 ·by_cases h2 : 1000 < n <;> simp [h, h2]
theorem akP {rows cols row col : Nat} {L : qu} {p : Int × (Int × Int)} {w : Bool} (h : EmOk rows cols (L, row, col, p, w)) {kd r : Int} {es : List Int} (hx : EvOk (kd, r, es)) (s : Int) (ns hd : List Int) :
  JY (L, (row : Int), (col : Int), s, ns, hd, p.1, p.2.1, p.2.2, w) kd r es =
   some ((doQ L cols row col p w kd r es).1, ((doQ L cols row col p w kd r es).2.1 : Int), ((doQ L cols row col p w kd r es).2.2.1 : Int), s, ns, hd, (doQ L cols row col p w kd r es).2.2.2.1.1, (doQ L cols row col p w kd r es).2.2.2.1.2.1, (doQ L cols row col p w kd r es).2.2.2.1.2.2, (doQ L cols row col p w kd r es).2.2.2.2) := by
 obtain ⟨p1, p2, p3⟩ := p
 have hG : GOk L cols := h.g
 have hlen : L.length = rows := h.len
 have hr : row < rows := h.row
 have hc : col < cols := h.col
 have hp : PenOk (p1, p2, p3) := h.pen
 have hr' : row < L.length := by omega
 have hb : u8r p3 := a93 hp
 have hrows := hG.rows
 have hwide := hG.wide
 have z0 : ((0 : Nat) : Int) = 0 := rfl
 have z1 : ((1 : Nat) : Int) = 1 := rfl
 have hn0 := XL kd r es 0 1
 have hn1 := XL kd r es 1 1
 have hk0 := XL kd r es 0 0
 rw [z0] at hn0 hk0
 rw [z1] at hn1
 have hco := hG.cols07 (row : Int) (col : Int)
 have br := Q6 hr'
 have bc := Q6 hc
 have hmv := fun a b => adW hG a b row col s ns hd p1 p2 p3 w
 have d0 := uD es 0
 have d1 := uD es 1
 have m0 := XV (a := row) hr' hrows.2 es 0
 have m1 := U9 (a := row) hr' hrows.2 es 0
 have m2 := XV (a := col) hc hwide.2 es 0
 have m3 := U9 (a := col) hc hwide.2 es 0
 have m4 := xX hrows.2 es 0
 have m5 := xX hwide.2 es 1
 unfold JY doQ
 by_cases k1 : kd = 1
 ·rw [if_pos k1]
  have a1 := acC hG hr' hc hx.r s ns hd hp w
  simp (disch := omega) only [q8, qD, qw, wX, q9, qd, qf, qj, hco, hn0, hn1, hk0, kO, zZ, zX, wB, a1]
 ·rw [if_neg k1]
  by_cases k2 : kd = 2
  ·rw [if_pos k2]
   by_cases r1 : r = 13
   ·rw [if_pos r1]
    have a1 := hmv (row : Int) 0
    have b0 : qO (0 : Int) cols = 0 := by unfold qO; omega
    rw [br, b0] at a1
    simp (disch := omega) only [q8, qD, qw, wX, q9, qd, qf, qj, hco, hn0, hn1, hk0, kO, zZ, zX, wB, a1]
   ·rw [if_neg r1]
    by_cases r2 : r = 10
    ·rw [if_pos r2]
     have a1 := a7E (col := col) hG hr' s ns hd p1 p2 p3 w
     simp (disch := omega) only [q8, qD, qw, wX, q9, qd, qf, qj, hco, hn0, hn1, hk0, kO, zZ, zX, wB, a1]
    ·rw [if_neg r2]
     by_cases r3 : r = 8
     ·rw [if_pos r3]
      have a1 := hmv (row : Int) ((col : Int) - 1)
      have b0 : qO ((col : Int) - 1) cols = col - 1 := by unfold qO; omega
      rw [br, b0] at a1
      simp (disch := omega) only [q8, qD, qw, wX, q9, qd, qf, qj, hco, hn0, hn1, hk0, kO, zZ, zX, wB, a1]
     ·rw [if_neg r3]
      simp (disch := omega) only [q8, qD, qw, wX, q9, qd, qf, qj, hco, hn0, hn1, hk0, kO, zZ, zX, wB]
  ·rw [if_neg k2]
   by_cases k3 : kd = 3
   ·rw [if_pos k3]
    by_cases r1 : r = 65
    ·rw [if_pos r1]
     have a1 := hmv ((row : Int) - Wh es 0) (col : Int)
     rw [bc, m0] at a1
     simp (disch := omega) only [q8, qD, qw, jW, q9, qd, qf, qj, hco, hn0, hn1, hk0, kO, zZ, zX, wB, vE, a1]
    ·rw [if_neg r1]
     by_cases r2 : r = 66
     ·rw [if_pos r2]
      have a1 := hmv ((row : Int) + Wh es 0) (col : Int)
      rw [bc, m1] at a1
      simp (disch := omega) only [q8, qD, qw, jW, q9, qd, qf, qj, hco, hn0, hn1, hk0, kO, zZ, zX, wB, vE, a1]
     ·rw [if_neg r2]
      by_cases r3 : r = 67
      ·rw [if_pos r3]
       have a1 := hmv (row : Int) ((col : Int) + Wh es 0)
       rw [br, m3] at a1
       simp (disch := omega) only [q8, qD, qw, jW, q9, qd, qf, qj, hco, hn0, hn1, hk0, kO, zZ, zX, wB, vE, a1]
      ·rw [if_neg r3]
       by_cases r4 : r = 68
       ·rw [if_pos r4]
        have a1 := hmv (row : Int) ((col : Int) - Wh es 0)
        rw [br, m2] at a1
        simp (disch := omega) only [q8, qD, qw, jW, q9, qd, qf, qj, hco, hn0, hn1, hk0, kO, zZ, zX, wB, vE, a1]
       ·rw [if_neg r4]
        by_cases r5 : r = 72
        ·rw [if_pos r5]
         have a1 := hmv (Wh es 0 - 1) (Wh es 1 - 1)
         rw [m4, m5] at a1
         simp (disch := omega) only [q8, qD, qw, jW, q9, qd, qf, qj, hco, hn0, hn1, hk0, kO, zZ, zX, wB, vE, a1]
        ·rw [if_neg r5]
         by_cases r6 : r = 74
         ·rw [if_pos r6]
          subst r6
          have a1 := ahg hG hr' hc kd (j8 es 0 0) es s ns hd p1 p2 hb w 0 0 0 0 0 0 false
          simp (disch := omega) only [q8, qD, qw, jW, q9, qd, qf, qj, hco, hn0, hn1, hk0, kO, zZ, zX, wB, a1]
         ·rw [if_neg r6]
          by_cases r7 : r = 75
          ·rw [if_pos r7]
           subst r7
           have a1 := afA hG hr' hc kd (j8 es 0 0) es s ns hd p1 p2 p3 w 0 0 0 0 0 0 false
           simp (disch := omega) only [q8, qD, qw, jW, q9, qd, qf, qj, hco, hn0, hn1, hk0, kO, zZ, zX, wB, a1]
          ·rw [if_neg r7]
           by_cases r8 : r = 109
           ·rw [if_pos r8]
            have a1 := acI (kd := kd) (r := r) hx.n hx.i L (row : Int) (col : Int) s ns hd hp w (0, 0, 0, 0, 0, 0, false)
            simp (disch := omega) only [q8, qD, qw, jW, q9, qd, qf, qj, hco, hn0, hn1, hk0, kO, zZ, zX, wB, a1]
           ·rw [if_neg r8]
            simp (disch := omega) only [q8, qw, jW, q9, qf, qj, hco, hn0, hn1, hk0, kO, zZ, zX, wB]
   ·rw [if_neg k3]
    simp (disch := omega) only [q8, qw, wX, q9, qd, qf, qj, hco, hn0, hn1, hk0, kO, zZ, zX, wB]
def doS (cols : Nat) (s : EmS) (x : EvT) : EmS := doQ s.1 cols s.2.1 s.2.2.1 s.2.2.2.1 s.2.2.2.2 x.1 x.2.1 x.2.2
def doL (cols : Nat) (s : EmS) (l : List EvT) : EmS := l.foldl (doS cols) s
theorem aay {rows cols : Nat} : ∀ {l : List EvT} {s : EmS}, EmOk rows cols s → (∀ x ∈ l, EvOk x) → EmOk rows cols (doL cols s l)
 | [], s, h, _ => h
 | x :: l, s, h, hl => aay (l := l) (akl (kd := x.1) (r := x.2.1) (es := x.2.2) h (hl x List.mem_cons_self)) fun y hy => hl y (List.mem_cons_of_mem _ hy)
theorem ahD (cols : Nat) (s : EmS) {l : List EvT} {i : Nat} {x : EvT} (h : l[i]? = some x) : doL cols s (l.take (i + 1)) = doS cols (doL cols s (l.take i)) x := by
 rw [kA h]
 unfold doL
 rw [List.foldl_append]
 rfl
abbrev emE (h0 h1 h2 n st : Int) (s : EmS) : EmT := (h0, h1, h2, n, st, s.2.2.2.1.1, s.2.2.2.1.2.1, s.2.2.2.1.2.2, s.2.2.2.2)
theorem ajy {rows cols : Nat} {s : EmS} (h : EmOk rows cols s) {l : List EvT} (hl : ∀ x ∈ l, EvOk x) (hn : l.length ≤ 1000000) (h0 h1 h2 n st : Int) (ns : List Int) :
  vQ l (emE h0 h1 h2 n st s) ((s.2.1 : Int), (s.2.2.1 : Int), (cols : Int)) s.1 ns = some (emE h0 h1 h2 n st (doL cols s l), (((doL cols s l).2.1 : Int), ((doL cols s l).2.2.1 : Int), (cols : Int)), (doL cols s l).1, ns) := by
 have main : xP ((l, ((l.length : Int), (0 : Int))), (emE h0 h1 h2 n st s, (((s.2.1 : Int), (s.2.2.1 : Int), (cols : Int)), (s.1, ns)))) = some (emE h0 h1 h2 n st (doL cols s l), (((doL cols s l).2.1 : Int), ((doL cols s l).2.2.1 : Int), (cols : Int)), (doL cols s l).1, ns) := by
  refine zu (step := fun s => kC s.1 s.2.1 s.2.2.1 s.2.2.2.1 s.2.2.2.2) (st := fun i => ((l, ((l.length : Int), ((i : Nat) : Int))), (emE h0 h1 h2 n st (doL cols s (l.take i)), ((((doL cols s (l.take i)).2.1 : Int), ((doL cols s (l.take i)).2.2.1 : Int), (cols : Int)), ((doL cols s (l.take i)).1, ns))))) (n := l.length) (fun i hi => ?_) ?_ 0 (by omega)
  ·obtain ⟨x, hx⟩ := qF hi
   have hok := aay (l := l.take i) h fun y hy => hl y (List.mem_of_mem_take hy)
   have := ajw hok (kd := x.1) (r := x.2.1) (es := x.2.2) (hl x (List.mem_of_getElem? hx)) hn hx h0 h1 h2 n st ns
   rw [ahD cols s hx]
   exact this
  ·show kC _ _ _ _ _ = _
   have e : l.take l.length = l := List.take_length
   unfold kC
   rw [e]
   simp (disch := omega) only [q8, qh, qm, qD, qw, wX, jW, q9, kI, z9, kG, qd, qf, qj, Option.bind_none, qH, ze, zB, qM, jo, jX, zw, kx, qp, decide_false, qV, zx, true_and, and_true, and_self]
 unfold vQ
 simp (disch := omega) only [q8, qh, qm, qD, qw, wX, jW, q9, kI, z9, kG, qd, qf, qj, Option.bind_none, qH, ze, zB, qM, jo, jX, zw, kx, qp, decide_false, qV, zx, true_and, and_true, and_self, main]
theorem aes {n : Int} (hn : 0 ≤ n ∧ n ≤ 3) (h0 h1 h2 st p1 p2 p3 : Int) (w : Bool) (g : Int × (Int × Int)) (L : qu) (ns : List Int) :
  Kx (h0, h1, h2, n, st, p1, p2, p3, w) g L ns = some (decide (st = 0 ∧ n = 0), (h0, h1, h2, n, st, p1, p2, p3, w), g, L, ns) := by
 unfold Kx KK YB
 by_cases hs : st = 0
 ·by_cases c3 : n = 3
  ·simp (disch := omega) only [q8, qh, qm, qD, qw, wX, jW, q9, kI, z9, kG, qd, qf, qj, Option.bind_none, qH, ze, zB, qM, jo, jX, zw, kx, qp, decide_false, qV, zx, true_and, and_true, and_self, Option.getD_some]
  ·by_cases c2 : n = 2
   ·simp (disch := omega) only [q8, qh, qm, qD, qw, wX, jW, q9, kI, z9, kG, qd, qf, qj, Option.bind_none, qH, ze, zB, qM, jo, jX, zw, kx, qp, decide_false, qV, zx, true_and, and_true, and_self, Option.getD_some]
   ·by_cases c1 : n = 1
    ·simp (disch := omega) only [q8, qh, qm, qD, qw, wX, jW, q9, kI, z9, kG, qd, qf, qj, Option.bind_none, qH, ze, zB, qM, jo, jX, zw, kx, qp, decide_false, qV, zx, true_and, and_true, and_self, Option.getD_some]
    ·have c0 : n = 0 := by omega
     simp (disch := omega) only [q8, qh, qm, qD, qw, wX, jW, q9, kI, z9, kG, qd, qf, qj, Option.bind_none, qH, ze, zB, qM, jo, jX, zw, kx, qp, decide_false, qV, zx, true_and, and_true, and_self, Option.getD_some]
 ·simp (disch := omega) only [q8, qh, qm, qD, qw, wX, jW, q9, kI, z9, kG, qd, qf, qj, Option.bind_none, qH, ze, zB, qM, jo, jX, zw, kx, qp, decide_false, qV, zx, true_and, and_true, and_self]
theorem a9c {rows cols : Nat} {s : EmS} (h : EmOk rows cols s) {n st : Int} (hn : 0 ≤ n ∧ n ≤ 3) {hd : List Int} (hh : (hd.length : Int) = n) (h0 h1 h2 : Int) (N ns : List Int) :
  Zu (s.1, (s.2.1 : Int), (s.2.2.1 : Int), st, N, hd, s.2.2.2.1.1, s.2.2.2.1.2.1, s.2.2.2.1.2.2, s.2.2.2.2) (emE h0 h1 h2 n st s) ((s.2.1 : Int), (s.2.2.1 : Int), (cols : Int)) s.1 ns =
   some (true, emE h0 h1 h2 n st s, ((s.2.1 : Int), (s.2.2.1 : Int), (cols : Int)), s.1, ns) := by
 obtain ⟨L, row, col, ⟨p1, p2, p3⟩, w⟩ := s
 have hG : GOk L cols := h.g
 have a1 := adR hG.small (by have := hG.rows; omega) ((row : Int), (col : Int), (cols : Int))
 have a2 : QW (L, (row : Int), (col : Int)) ((row : Int), (col : Int), (cols : Int)) L = some (true, ((row : Int), (col : Int), (cols : Int)), L) := by
  obtain ⟨l0, q0, ql⟩ := hG.first
  have := ai6 hG.small (by have := hG.rows; omega) hG.ok q0 (row : Int) (col : Int)
  rwa [ql] at this
 have a3 := aes hn h0 h1 h2 st p1 p2 p3 w ((row : Int), (col : Int), (cols : Int)) L ns
 have a4 : J6 st N hd = some (decide (st = 0 ∧ n = 0)) := by
  unfold J6
  by_cases hs : st = 0
  ·by_cases c0 : n = 0
   ·simp (disch := omega) only [q8, qh, qm, qD, qw, wX, jW, q9, kI, z9, kG, qd, qf, qj, Option.bind_none, qH, ze, zB, qM, jo, jX, zw, kx, qp, decide_false, qV, zx, true_and, and_true, and_self]
   ·simp (disch := omega) only [q8, qh, qm, qD, qw, wX, jW, q9, kI, z9, kG, qd, qf, qj, Option.bind_none, qH, ze, zB, qM, jo, jX, zw, kx, qp, decide_false, qV, zx, true_and, and_true, and_self]
  ·simp (disch := omega) only [q8, qh, qm, qD, qw, wX, jW, q9, kI, z9, kG, qd, qf, qj, Option.bind_none, qH, ze, zB, qM, jo, jX, zw, kx, qp, decide_false, qV, zx, true_and, and_true, and_self]
 unfold Zu Yx xi YN
 simp (disch := omega) only [q8, qh, qm, qD, qw, wX, jW, q9, kI, z9, kG, qd, qf, qj, Option.bind_none, qH, ze, zB, qM, jo, jX, zw, kx, qp, decide_false, qV, zx, true_and, and_true, and_self, a1, a2, a3, a4, beq_self_eq_true, Bool.and_self, Bool.and_true]
theorem a5J (n : Int) : ∃ k : Int, Q0 n = some k ∧ (qU k = true → 1 ≤ k ∧ k ≤ 512) := by
 unfold Q0
 by_cases h1 : 20 < n
 ·by_cases h2 : n ≤ 512
  ·exact ⟨20, by simp (disch := omega) only [q8, qh, qm, qD, qw, wX, jW, q9, kI, z9, kG, qd, qf, qj, Option.bind_none, qH, ze, zB, qM, jo, jX, zw, kx, qp, decide_false, qV, zx, true_and, and_true, and_self], fun h => by omega⟩
  ·refine ⟨n, by simp (disch := omega) only [q8, qh, qm, qD, qw, wX, jW, q9, kI, z9, kG, qd, qf, qj, Option.bind_none, qH, ze, zB, qM, jo, jX, zw, kx, qp, decide_false, qV, zx, true_and, and_true, and_self], fun h => ?_⟩
   unfold qU at h; simpa using h
 ·refine ⟨n, by simp (disch := omega) only [q8, qh, qm, qD, qw, wX, jW, q9, kI, z9, kG, qd, qf, qj, Option.bind_none, qH, ze, zB, qM, jo, jX, zw, kx, qp, decide_false, qV, zx, true_and, and_true, and_self], fun h => ?_⟩
  unfold qU at h; simpa using h
def a2w (rows cols : Nat) : EmS := (List.replicate rows (wp (cols : Int)), 0, 0, (0, 0, 0), false)
theorem ajb {rows cols : Nat} (hr : qU (rows : Int) = true) (hc : qU (cols : Int) = true) : EmOk rows cols (a2w rows cols) := by
 have hr' : 1 ≤ (rows : Int) ∧ (rows : Int) ≤ 512 := by unfold qU at hr; simpa using hr
 have hc' : 1 ≤ (cols : Int) ∧ (cols : Int) ≤ 512 := by unfold qU at hc; simpa using hc
 exact ⟨GOk.new hr hc, List.length_replicate, by show 0 < rows; omega, by show 0 < cols; omega, acb⟩
theorem ahx {rows cols : Nat} (hr : qU (rows : Int) = true) (hc : qU (cols : Int) = true) : QK (rows : Int) (cols : Int) = some (.inr (emE 0 0 0 0 0 (a2w rows cols), ((0 : Int), (0 : Int), (cols : Int)), (a2w rows cols).1, [])) := by
 have a1 := a27 (rows : Int) (cols : Int)
 rw [if_pos ⟨hr, hc⟩, Int.toNat_natCast] at a1
 unfold QK
 simp (disch := omega) only [q8, qh, qm, qD, qw, wX, jW, q9, kI, z9, kG, qd, qf, qj, Option.bind_none, qH, ze, zB, qM, jo, jX, zw, kx, qp, decide_false, qV, zx, true_and, and_true, and_self, a1]
 rfl
theorem aj6 {r c : Int} (h : ¬ (qU r = true ∧ qU c = true)) : QK r c = some (.inl ()) := by
 have a1 := a27 r c
 rw [if_neg h] at a1
 unfold QK
 simp (disch := omega) only [q8, qh, qm, qD, qw, wX, jW, q9, kI, z9, kG, qd, qf, qj, Option.bind_none, qH, ze, zB, qM, jo, jX, zw, kx, qp, decide_false, qV, zx, true_and, and_true, and_self, a1]
theorem aiF {rows : Nat} (hn : rows ≤ 1000000) (cols : Nat) : WR (rows : Int) (cols : Int) = some ((a2w rows cols).1, (0 : Int), (0 : Int), (0 : Int), [], [], (0 : Int), (0 : Int), (0 : Int), false) := by
 have a1 := afg hn (cols : Int)
 unfold WR
 simp (disch := omega) only [q8, qh, qm, qD, qw, wX, jW, q9, kI, z9, kG, qd, qf, qj, Option.bind_none, qH, ze, zB, qM, jo, jX, zw, kx, qp, decide_false, qV, zx, true_and, and_true, and_self, a1]
 rfl
theorem a4o (a : List EvT × Int) (b : EmT) (c : qu × (Int × (Int × (Int × (List Int × (List Int × (Int × (Int × (Int × Bool))))))))) (d : Int × (Int × Int)) (e : List Int) (f : qu) : y3 (a, b, c, d, e, f) = unr (kS a b c d e f) y3 := WP _ _
theorem akG (l : List Int) : (0 : Int) ≤ (if (10 : Int) < (l.length : Int) then (10 : Int) else (l.length : Int)) ∧ (if (10 : Int) < (l.length : Int) then (10 : Int) else (l.length : Int)).toNat = min 10 l.length ∧ l.take (min 10 l.length) = l.take 10 := by
 refine ⟨by split <;> omega, by split <;> omega, ?_⟩
 by_cases h : 10 ≤ l.length
 ·rw [Nat.min_eq_left h]
 ·rw [Nat.min_eq_right (by omega), List.take_of_length_le (Nat.le_refl _), List.take_of_length_le (by omega)]
theorem acy {rows cols : Nat} {l : List EvT} (hl : ∀ x ∈ l, Z4 x.2.1 ∧ ∀ v ∈ x.2.2, Zj v) : ∀ (k i : Nat) (s : EmS), k = l.length - i → i ≤ l.length → i ≤ 40 → EmOk rows cols s →
  y3 ((l, (i : Int)), emE 0 0 0 0 0 s, (s.1, (s.2.1 : Int), (s.2.2.1 : Int), 0, [], [], s.2.2.2.1.1, s.2.2.2.1.2.1, s.2.2.2.1.2.2, s.2.2.2.2), ((s.2.1 : Int), (s.2.2.1 : Int), (cols : Int)), [], s.1) = some true := by
 intro k
 induction k with
 | zero =>
  intro i s hk hi h40 hs
  rw [a4o]
  unfold kS
  simp (disch := omega) only [q8, qh, qm, qD, qw, wX, jW, q9, kI, z9, kG, qd, qf, qj, Option.bind_none, qH, ze, zB, qM, jo, jX, zw, kx, qp, decide_false, qV, zx, true_and, and_true, and_self]
 | succ k ih =>
  intro i s hk hi h40 hs
  by_cases h4 : i = 40
  ·rw [a4o]
   unfold kS
   simp (disch := omega) only [q8, qh, qm, qD, qw, wX, jW, q9, kI, z9, kG, qd, qf, qj, Option.bind_none, qH, ze, zB, qM, jo, jX, zw, kx, qp, decide_false, qV, zx, true_and, and_true, and_self]
  ·obtain ⟨x, hx⟩ := qF (l := l) (i := i) (by omega)
   obtain ⟨x1, x2⟩ := hl x (List.mem_of_getElem? hx)
   have hev : EvOk (x.1, x.2.1, x.2.2.take 10) := ⟨x1, by show (x.2.2.take 10).length ≤ 1000; rw [List.length_take]; omega, fun v hv => x2 v (List.mem_of_mem_take hv)⟩
   have e : ((i : Int) + 1) = ((i + 1 : Nat) : Int) := by omega
   have a1 := ajy hs (l := [(x.1, x.2.1, x.2.2.take 10)]) (fun y hy => by rw [List.mem_singleton] at hy; rw [hy]; exact hev) (by simp) 0 0 0 0 0 []
   have a2 : vC x.1 x.2.1 (x.2.2.take 10) = some (x.1, x.2.1, x.2.2.take 10) := by
    have := x1
    unfold Z4 at this
    unfold vC
    simp (disch := omega) only [q8, qh, qm, qD, qw, wX, jW, q9, kI, z9, kG, qd, qf, qj, Option.bind_none, qH, ze, zB, qM, jo, jX, zw, kx, qp, decide_false, qV, zx, true_and, and_true, and_self]
   have a3 := akP (rows := rows) (L := s.1) (row := s.2.1) (col := s.2.2.1) (p := s.2.2.2.1) (w := s.2.2.2.2) hs hev 0 [] []
   have hs' := aay (l := [(x.1, x.2.1, x.2.2.take 10)]) hs (fun y hy => by rw [List.mem_singleton] at hy; rw [hy]; exact hev)
   have a4 := a9c hs' (n := 0) (st := 0) ⟨by omega, by omega⟩ (hd := []) rfl 0 0 0 [] []
   have ih' := ih (i + 1) _ (by omega) (by omega) (by omega) hs'
   have a3' : JY (s.1, (s.2.1 : Int), (s.2.2.1 : Int), 0, [], [], s.2.2.2.1.1, s.2.2.2.1.2.1, s.2.2.2.1.2.2, s.2.2.2.2) x.1 x.2.1 (x.2.2.take 10) = some ((doL cols s [(x.1, x.2.1, x.2.2.take 10)]).1, ((doL cols s [(x.1, x.2.1, x.2.2.take 10)]).2.1 : Int), ((doL cols s [(x.1, x.2.1, x.2.2.take 10)]).2.2.1 : Int), 0, [], [], (doL cols s [(x.1, x.2.1, x.2.2.take 10)]).2.2.2.1.1, (doL cols s [(x.1, x.2.1, x.2.2.take 10)]).2.2.2.1.2.1, (doL cols s [(x.1, x.2.1, x.2.2.take 10)]).2.2.2.1.2.2, (doL cols s [(x.1, x.2.1, x.2.2.take 10)]).2.2.2.2) := a3
   obtain ⟨t1, t2, t3⟩ := akG x.2.2
   generalize doL cols s [(x.1, x.2.1, x.2.2.take 10)] = s' at *
   rw [a4o]
   unfold kS
   have t4 : decide ((0 : Int) ≤ (if (10 : Int) < (x.2.2.length : Int) then (10 : Int) else (x.2.2.length : Int)) ∧ min 10 x.2.2.length ≤ x.2.2.length) = true := decide_eq_true ⟨t1, Nat.min_le_right _ _⟩
   simp (disch := omega) only [q8, qh, qm, qD, qw, wX, jW, q9, kI, z9, kG, qd, qf, qj, Option.bind_none, qH, ze, zB, qM, jo, jX, zw, kx, qp, decide_false, qV, zx, true_and, and_true, and_self, hx, t2, t3, t4, a1, a2, a3', a4, e, ih']
theorem a0Z {rows cols : Int} {l : List EvT} (hl : ∀ x ∈ l, Z4 x.2.1 ∧ ∀ v ∈ x.2.2, Zj v) : WO rows cols l = some true := by
 obtain ⟨r', s1, s2⟩ := a5J rows
 obtain ⟨c', t1, t2⟩ := a5J cols
 unfold WO
 by_cases hs : qU r' = true ∧ qU c' = true
 ·obtain ⟨u1, u2⟩ := s2 hs.1
  obtain ⟨u3, u4⟩ := t2 hs.2
  obtain ⟨nr, rfl⟩ : ∃ n : Nat, r' = n := ⟨r'.toNat, by omega⟩
  obtain ⟨nc, rfl⟩ : ∃ n : Nat, c' = n := ⟨c'.toNat, by omega⟩
  have a1 := ahx hs.1 hs.2
  have a2 := aiF (rows := nr) (by omega) nc
  have a3 := acy (rows := nr) (cols := nc) hl l.length 0 (a2w nr nc) (by omega) (by omega) (by omega) (ajb hs.1 hs.2)
  have a3' : y3 ((l, (0 : Int)), emE 0 0 0 0 0 (a2w nr nc), ((a2w nr nc).1, (0 : Int), (0 : Int), 0, [], [], 0, 0, 0, false), ((0 : Int), (0 : Int), (nc : Int)), [], (a2w nr nc).1) = some true := a3
  have ee : emE 0 0 0 0 0 (a2w nr nc) = (0, 0, 0, 0, 0, 0, 0, 0, false) := rfl
  rw [ee] at a1 a3'
  simp (disch := omega) only [q8, qh, qm, qD, qw, wX, jW, q9, kI, z9, kG, qd, qf, qj, Option.bind_none, qH, ze, zB, qM, jo, jX, zw, kx, qp, decide_false, qV, zx, true_and, and_true, and_self, s1, t1, a1, a2, a3']
 ·have a1 := aj6 hs
  have a2 := agG r' c'
  have hb : (qU r' && qU c') = false := by
   cases q : (qU r' && qU c')
   ·rfl
   ·simp only [q8, Bool.and_eq_true] at q; exact absurd q hs
  rw [hb] at a2
  simp (disch := omega) only [q8, qh, qm, qD, qw, wX, jW, q9, kI, z9, kG, qd, qf, qj, Option.bind_none, qH, ze, zB, qM, jo, jX, zw, kx, qp, decide_false, qV, zx, true_and, and_true, and_self, s1, t1, a1, a2]
open Go.Proofs
abbrev amh : CT := .pair (.int .i64) (.pair (.int .i32) (.sl (.int .i64)))
theorem akS {n : Int} (h : CT.ok (.int .i32) n) : Z4 n := by
 obtain ⟨h1, h2⟩ := h
 have e1 : IntKind.i32.min = -2147483648 := by decide +kernel
 have e2 : IntKind.i32.max = 2147483647 := by decide +kernel
 rw [e1] at h1
 rw [e2] at h2
 exact ⟨h1, Int.lt_of_le_of_lt h2 (by decide)⟩
theorem al4 {n : Int} (h : CT.ok (.int .i64) n) : Zj n := by
 obtain ⟨h1, h2⟩ := h
 have e1 : IntKind.i64.min = -9223372036854775808 := by decide +kernel
 have e2 : IntKind.i64.max = 9223372036854775807 := by decide +kernel
 rw [e1] at h1
 rw [e2] at h2
 exact ⟨h1, Int.lt_of_le_of_lt h2 (by decide)⟩
theorem aer (h : Heap) (vs : List Value) (hr : RVals Tryz.prog h 12 [3, 3, 63] vs) : ACalls Tryz.prog 5 vs h (fun v _ => v = .bool true) := by
 have ha : KC Tryz.prog 3 = false := by kernel_rfl
 have hb : KC Tryz.prog 63 = false := by kernel_rfl
 refine af8 (P := Tryz.prog) (f := 5) (av := .cons (.int .i64) (.cons (.int .i64) (.sl amh))) (m := fun s => WO s.1 s.2.1 s.2.2) a4w 12 12 [3, 3, 63] [.int .i64, .int .i64, .sl amh] (by kernel_rfl) (fun x => (x.1, x.2.1, x.2.2.1)) (fun x => ?_) (fun x hx => ?_) h vs hr
 ·simp only [a7t, adQ, ha, hb]
  rfl
 ·obtain ⟨-, -, h3, -⟩ := hx
  exact a0Z (rows := x.1) (cols := x.2.1) (fun y q => ⟨akS (h3.2 y q).2.1, fun v hv => al4 ((h3.2 y q).2.2.2 v hv)⟩)
end Go.Sim
