/- Part 10 of the claim EmuPrints: V31, V32, V33, V34, V35, V36, V37, V38, V39, GK, GL, V40, V41, GP, V42, V43, LPrints -/
import Derived.Test.YtaamhddpmbombaaProg
import Derived.Test.YtaamhddpmbombaaW9
import Derived.Test.YtaamhddpmbombaaW8
set_option linter.unusedSimpArgs false
set_option linter.unusedVariables false
set_option linter.defProp false
noncomputable section
set_option maxRecDepth 100000
set_option maxHeartbeats 4000000
namespace Go.Sim
theorem Z7 {a n : Nat} (h : a < n) : qX (a : Int) n = a := by unfold qX; omega
abbrev EmT : Type := Int × (Int × (Int × (Int × (Int × (Int × a70)))))
def ZX (L : qx) (cols row : Nat) (ba : Int) : qx × Nat := if row + 1 = L.length then (if K8 0 0 ba = true then uP L 1 (blL cols 0 0 ba) else L, row) else (L, row + 1)
theorem ai5 {n : Nat} (h : 1 ≤ n) : ZS n 1 = 1 := by unfold ZS; rw [if_neg (by omega), if_neg (by omega)]
theorem XG {L : qx} {cols row : Nat} (hG : GOk L cols) (hr : row < L.length) {ba : Int} (hb : u8r ba) : GOk (ZX L cols row ba).1 cols ∧ (ZX L cols row ba).1.length = L.length ∧ (ZX L cols row ba).2 < L.length := by
 unfold ZX
 split
 ·refine ⟨?_, ?_, hr⟩
  ·show GOk (if _ then _ else _) cols
   split
   ·rename_i hp
    exact hG.scroll 1 XC XC hb hp
   ·exact hG
  ·show (if _ then _ else _ : qx).length = _
   split
   ·exact Z0 _ _ _
   ·rfl
 ·exact ⟨hG, rfl, by show row + 1 < _; omega⟩
theorem a06 {L : qx} {cols row col : Nat} (hG : GOk L cols) (hr : row < L.length) (hc : col < cols) (h0 h1 h2 n st p1 p2 p3 : Int) (w : Bool) (ns : List Int) :
  wK (h0, h1, h2, n, st, p1, p2, p3, w) ((row : Int), (col : Int), (cols : Int)) L ns = some ((h0, h1, h2, n, st, p1, p2, p3, w), (((ZX L cols row p3).2 : Int), (col : Int), (cols : Int)), (ZX L cols row p3).1, ns) := by
 have hrows := hG.rows
 have hwide := hG.wide
 have a1 := a1c (L := L) (cols := cols) hG.small ⟨by omega, by omega⟩ 1 0 0 p3 (row : Int) (col : Int)
 rw [ai5 (by omega)] at a1
 have a2 := ZG (L := L) (cols := cols) ⟨by omega, by omega⟩ ⟨by omega, by omega⟩ ((row + 1 : Nat) : Int) (col : Int) (row : Int) (col : Int)
 have e : (row : Int) + 1 = ((row + 1 : Nat) : Int) := by omega
 have e2 : qX (col : Int) cols = col := Z7 hc
 rw [e2] at a2
 unfold wK ZX
 by_cases h : row + 1 = L.length
 ·simp only [q8, if_pos h]
  simp (disch := omega) only [q8, zL, qc, qg, qw, qm, qj, wa, qJ, a1]
 ·have e3 : qX ((row + 1 : Nat) : Int) L.length = row + 1 := Z7 (by omega)
  rw [e3] at a2
  simp only [q8, if_neg h]
  simp (disch := omega) only [q8, qY, qc, qg, qk, qw, qm, qj, wa, qy, a2, e]
theorem aau {l : List qf} {k m : Int} (h : zj m ≠ 0) : (yS l k m).2 = false := by
 unfold yS
 split
 ·split
  ·unfold yl
   rw [if_neg (fun q => h q.1)]
  ·rfl
 ·rfl
theorem aab {L : qx} {k : Int} {f : List qf → List qf × Bool} (h : ∀ l, (f l).2 = false) : (kZ L k f).2 = L := by
 unfold kZ
 split
 ·split
  ·rename_i l _
   rw [h l]
   rfl
  ·rfl
 ·rfl
def wu (r : Int) (p : Int × (Int × Int)) : qf := (r, (0, 0), zj r, p.1, p.2.1, p.2.2)
def atQ (L : qx) (cols row col : Nat) (ba : Int) (w : Bool) (n : Nat) : (qx × Nat) × Nat := if w = true ∨ cols < col + n then (ZX L cols row ba, 0) else ((L, row), col)
def jt (L : qx) (cols row col : Nat) (p : Int × (Int × Int)) (w : Bool) (r : Int) : qx × (Nat × (Nat × Bool)) :=
 if zj r = 0 then ((kZ L (row : Int) fun l => yS l (if w = true then (col : Int) else (col : Int) - 1) r).2, row, col, w)
 else if zj r < 0 ∨ (cols : Int) < zj r then (L, row, col, w)
 else ((kZ (atQ L cols row col p.2.2 w (zj r).toNat).1.1 ((atQ L cols row col p.2.2 w (zj r).toNat).1.2 : Int) fun l => Qd l ((atQ L cols row col p.2.2 w (zj r).toNat).2 : Int) (wu r p)).2,
  (atQ L cols row col p.2.2 w (zj r).toNat).1.2, min ((atQ L cols row col p.2.2 w (zj r).toNat).2 + (zj r).toNat) (cols - 1), decide (cols ≤ (atQ L cols row col p.2.2 w (zj r).toNat).2 + (zj r).toNat))
theorem a8W {r : Int} (hr : Zi r) {p : Int × (Int × Int)} (hp : PenOk p) (hn : ¬ zj r < 0) : OkC (wu r p) := by
 have h1 := hp.f
 have h2 := hp.fo
 have h3 := hp.ba
 refine ⟨hr, (by unfold Zi wu; simp), (by unfold Zi wu; simp), ?_, ?_, ?_, ?_⟩
 ·unfold u8r wu
  rcases vk r with q | q | q | q <;> simp only [q8, q] <;> omega
 ·unfold u8r wu; simp only; omega
 ·unfold u8r wu; simp only; omega
 ·unfold u8r wu; simp only; omega
theorem aeh {L : qx} {cols row col : Nat} (hG : GOk L cols) (hr : row < L.length) (hc : col < cols) {ba : Int} (hb : u8r ba) (w : Bool) {n : Nat} (hn : n ≤ cols) : GOk (atQ L cols row col ba w n).1.1 cols ∧ (atQ L cols row col ba w n).1.1.length = L.length ∧ (atQ L cols row col ba w n).1.2 < L.length ∧ (atQ L cols row col ba w n).2 < cols ∧ (atQ L cols row col ba w n).2 + n ≤ cols := by
 have hwide := hG.wide
 unfold atQ
 split
 ·obtain ⟨f1, f2, f3⟩ := XG hG hr hb
  exact ⟨f1, f2, f3, by show 0 < cols; omega, by show 0 + n ≤ cols; omega⟩
 ·rename_i h
  exact ⟨hG, rfl, hr, hc, by show col + n ≤ cols; omega⟩
theorem a9I {L : qx} {cols row col : Nat} (hG : GOk L cols) (hr : row < L.length) (hc : col < cols) {p : Int × (Int × Int)} (hp : PenOk p) (w : Bool) {r : Int} (hr32 : Zi r) :
  GOk (jt L cols row col p w r).1 cols ∧ (jt L cols row col p w r).1.length = L.length ∧ (jt L cols row col p w r).2.1 < L.length ∧ (jt L cols row col p w r).2.2.1 < cols := by
 have hwide := hG.wide
 have hb : u8r p.2.2 := by have := hp.ba; unfold u8r; omega
 unfold jt
 split
 ·exact ⟨hG.turn _ _ (fun l hl _ => a9x hl hr32 _), Jj _ _ _, hr, hc⟩
 ·split
  ·exact ⟨hG, rfl, hr, hc⟩
  ·rename_i h1 h2
   have hn : (zj r).toNat ≤ cols := by omega
   obtain ⟨q1, q2, q3, q4, q5⟩ := aeh hG hr hc hb w hn
   have hC := a8W hr32 hp (by omega)
   refine ⟨q1.turn _ _ (fun l hl _ => acN hl hC _), (Jj _ _ _).trans q2, q3, ?_⟩
   show min _ (cols - 1) < cols
   omega
theorem agr {r : Int} (h : ¬ zj r < 1) (p1 p2 p3 : Int) : yI r p1 p2 p3 = some ((r, 0, 0, zj r, p1, p2, p3), true) := by
 rw [a9k]
 unfold ofC
 rw [if_neg h]
 rfl
theorem aiB {r : Int} (h : zj r < 1) (p1 p2 p3 : Int) : yI r p1 p2 p3 = some ((0, 0, 0, 0, 0, 0, 0), false) := by
 rw [a9k]
 unfold ofC
 rw [if_pos h]
 rfl
theorem a8a {L : qx} {cols row col : Nat} (hG : GOk L cols) (hr : row < L.length) (hc : col < cols) {r : Int} (hr32 : Zi r) (h0 h1 h2 n st : Int) {p1 p2 p3 : Int} (hp : PenOk (p1, p2, p3)) (w : Bool) (ns : List Int) :
  Qr r (h0, h1, h2, n, st, p1, p2, p3, w) ((row : Int), (col : Int), (cols : Int)) L ns =
   some ((h0, h1, h2, n, st, p1, p2, p3, (jt L cols row col (p1, p2, p3) w r).2.2.2), (((jt L cols row col (p1, p2, p3) w r).2.1 : Int), ((jt L cols row col (p1, p2, p3) w r).2.2.1 : Int), (cols : Int)), (jt L cols row col (p1, p2, p3) w r).1, ns) := by
 have hrows := hG.rows
 have hwide := hG.wide
 have hb : u8r p3 := by have := hp.ba; unfold u8r; simp only at this; omega
 have hS := hG.small
 unfold Qr
 by_cases c1 : zj r < 1
 ·have hof := aiB c1 p1 p2 p3
  have hmk := YH r
  unfold jt
  by_cases c2 : zj r = 0
  ·have hmk' : zT r = some true := by rw [hmk, c2]; rfl
   simp only [q8, if_pos c2]
   cases w
   ·have a1 := Ws hS (row : Int) ((col : Int) - 1) r ⟨by omega, by omega⟩ ((row : Int), (col : Int), (cols : Int))
    simp only [q8, Bool.false_eq_true, if_false]
    simp (disch := omega) only [q8, qc, qg, qk, qw, K6, qm, hof, hmk', qj, qy, a1]
   ·have a1 := Ws hS (row : Int) (col : Int) r ⟨by omega, by omega⟩ ((row : Int), (col : Int), (cols : Int))
    simp only [q8, if_true]
    simp (disch := omega) only [q8, qc, qg, qw, K6, qm, hof, hmk', qj, qy, a1]
  ·have hmk' : zT r = some false := by
    rw [hmk]
    have : (zj r == 0) = false := by simpa using c2
    rw [this]
   have a1 := Ws hS (row : Int) ((col : Int) - 1) r ⟨by omega, by omega⟩ ((row : Int), (col : Int), (cols : Int))
   have a2 : (kZ L (row : Int) fun l => yS l ((col : Int) - 1) r).2 = L := aab fun l => aau c2
   rw [a2] at a1
   simp only [q8, if_neg c2, if_pos (show zj r < 0 ∨ (cols : Int) < zj r from .inl (by omega))]
   simp (disch := omega) only [q8, qc, qg, qk, qw, K6, qm, hof, hmk', qj, qy, a1]
 ·have hof := agr c1 p1 p2 p3
  have hw2 : zj r ≤ 2 := by rcases vk r with q | q | q | q <;> omega
  have ww : IntKind.i64.wrap (zj r) = zj r := qc (by omega) (by omega)
  unfold jt
  simp only [q8, if_neg (show ¬ zj r = 0 by omega)]
  by_cases c2 : (cols : Int) < zj r
  ·simp only [q8, if_pos (show zj r < 0 ∨ (cols : Int) < zj r from .inr c2)]
   simp (disch := omega) only [q8, qn, qg, qk, qw, jE, qm, hof, ww, qA]
  ·simp only [q8, if_neg (show ¬ (zj r < 0 ∨ (cols : Int) < zj r) by omega)]
   obtain ⟨m, hm⟩ : ∃ m : Nat, zj r = m := ⟨(zj r).toNat, by omega⟩
   have hC := a8W hr32 hp (by omega)
   have hm' : (zj r).toNat = m := by omega
   simp only [q8, hm']
   obtain ⟨q1, q2, q3, q4, q5⟩ := aeh (n := m) hG hr hc hb w (by omega)
   have fin : ∀ (L1 : qx) (row1 col1 : Nat), GOk L1 cols → L1.length = L.length → row1 < L.length → col1 < cols → col1 + m ≤ cols →
     jR ((row1 : Int), (col1 : Int), r, 0, 0, (m : Int), p1, p2, p3) ((row1 : Int), (col1 : Int), (cols : Int)) L1 = some ((kZ L1 (row1 : Int) fun l => Qd l (col1 : Int) (wu r (p1, p2, p3))).1, ((row1 : Int), (col1 : Int), (cols : Int)), (kZ L1 (row1 : Int) fun l => Qd l (col1 : Int) (wu r (p1, p2, p3))).2) ∧
     z4 ((row1 : Int), ((col1 + m : Nat) : Int)) ((row1 : Int), (col1 : Int), (cols : Int)) (kZ L1 (row1 : Int) fun l => Qd l (col1 : Int) (wu r (p1, p2, p3))).2 = some (((row1 : Int), ((min (col1 + m) (cols - 1) : Nat) : Int), (cols : Int)), (kZ L1 (row1 : Int) fun l => Qd l (col1 : Int) (wu r (p1, p2, p3))).2) := by
    intro L1 row1 col1 g1 g2 g3 g4 g5
    have a1 := abo g1.small (row1 : Int) (col1 : Int) ⟨by omega, by omega⟩ hC ((row1 : Int), (col1 : Int), (cols : Int))
    have hl := Jj L1 (row1 : Int) fun l => Qd l (col1 : Int) (wu r (p1, p2, p3))
    have a2 := ZG (L := (kZ L1 (row1 : Int) fun l => Qd l (col1 : Int) (wu r (p1, p2, p3))).2) (cols := cols) ⟨by omega, by omega⟩ ⟨by omega, by omega⟩ (row1 : Int) ((col1 + m : Nat) : Int) (row1 : Int) (col1 : Int)
    have b1 : qX (row1 : Int) (kZ L1 (row1 : Int) fun l => Qd l (col1 : Int) (wu r (p1, p2, p3))).2.length = row1 := Z7 (by omega)
    have b2 : qX ((col1 + m : Nat) : Int) cols = min (col1 + m) (cols - 1) := by unfold qX; omega
    rw [b1, b2] at a2
    refine ⟨?_, a2⟩
    have : (wu r (p1, p2, p3)) = (r, (0, 0), (m : Int), p1, p2, p3) := by unfold wu; rw [hm]
    rw [this] at a1 ⊢
    exact a1
   have hmv := ZG (L := L) (cols := cols) ⟨by omega, by omega⟩ ⟨by omega, by omega⟩ (row : Int) 0 (row : Int) (col : Int)
   have b0 : qX (0 : Int) cols = 0 := by unfold qX; omega
   rw [Z7 hr, b0] at hmv
   have hfd := a06 (col := 0) hG hr (by omega) h0 h1 h2 n st p1 p2 p3 w ns
   have z0 : (((0 : Nat) : Nat) : Int) = 0 := rfl
   rw [hm] at hof ww c2
   by_cases hat : w = true ∨ cols < col + m
   ·have ea : atQ L cols row col (p1, p2, p3).2.2 w m = (ZX L cols row p3, 0) := by unfold atQ; rw [if_pos hat]
    rw [ea]
    obtain ⟨f1, f2, f3⟩ := XG hG hr hb
    generalize ZX L cols row p3 = fq at *
    obtain ⟨L1, row1⟩ := fq
    simp only at f1 f2 f3 hfd
    obtain ⟨k1, k2⟩ := fin L1 row1 0 f1 f2 f3 (by omega) (by omega)
    simp only [q8, z0] at k1 k2 hfd hmv
    have e2 : (0 : Int) + (m : Int) = ((0 + m : Nat) : Int) := by omega
    have e3 : decide (cols ≤ 0 + m) = decide ((cols : Int) ≤ ((0 + m : Nat) : Int)) := decide_eq_decide.2 (by omega)
    simp only [q8, z0, e3]
    cases w
    ·have hat' : cols < col + m := by simpa using hat
     simp (disch := omega) only [q8, qn, qt, qc, qg, qk, qw, jE, qm, hof, ww, qA, qy, qj, hmv, hfd, k1, k2, e2]
    ·simp (disch := omega) only [q8, qt, qc, qg, qk, qw, jE, qm, hof, ww, qA, qy, qj, hmv, hfd, k1, k2, e2]
   ·have ea : atQ L cols row col (p1, p2, p3).2.2 w m = ((L, row), col) := by unfold atQ; rw [if_neg hat]
    rw [ea]
    have hw : w = false := by cases w; rfl; exact absurd (.inl rfl) hat
    have hat' : ¬ cols < col + m := fun q => hat (.inr q)
    subst hw
    obtain ⟨k1, k2⟩ := fin L row col hG rfl hr hc (by omega)
    have e2 : (col : Int) + (m : Int) = ((col + m : Nat) : Int) := by omega
    have e3 : decide (cols ≤ col + m) = decide ((cols : Int) ≤ ((col + m : Nat) : Int)) := decide_eq_decide.2 (by omega)
    simp only [q8, e3]
    simp (disch := omega) only [q8, qt, qc, qg, qk, qw, jE, qm, hof, ww, qA, qy, qj, k1, k2, e2]
def jB (ns : List Int) (k : Nat) (d : Int) : Int := match ns[k]? with
 | some v => if v = -1 then d else v
 | none => d
theorem WW (kd r : Int) (ns : List Int) (k : Nat) (d : Int) : kf (kd, r, ns) (k : Int) d = some (jB ns k d) := by
 unfold kf jB
 by_cases h : k < ns.length
 ·obtain ⟨v, hv⟩ := qS h
  by_cases h1 : v = -1
  ·rw [hv, h1]
   simp only [q8, if_true]
   simp (disch := omega) only [q8, qn, qt, zL, qg, qk, qw, ze, hv]
  ·rw [hv]
   simp only [q8, if_neg h1]
   simp (disch := omega) only [q8, qn, qt, qY, qg, qk, qw, ze, hv]
 ·have hv : ns[k]? = none := List.getElem?_eq_none (by omega)
  rw [hv]
  simp (disch := omega) only [q8, qn, qt, qg, qk, ze]
def yt (ns : List Int) (k : Nat) : Int := min 512 (max 1 (jB ns k 1))
theorem a2O (kd r : Int) (ns : List Int) (k : Nat) : ku (kd, r, ns) (k : Int) = some (yt ns k) := by
 unfold ku yt
 rw [WW]
 simp only [q8, qw]
 congr 1
 generalize jB ns k 1 = n
 split <;> split <;> omega
theorem ae7 (ns : List Int) (k : Nat) : 1 ≤ yt ns k ∧ yt ns k ≤ 512 := by unfold yt; omega
section
variable {L : qx} {cols row col : Nat}
theorem a1Z (hG : GOk L cols) (r c : Int) (a b : Nat) : z4 (r, c) ((a : Int), (b : Int), (cols : Int)) L = some (((qX r L.length : Int), (qX c cols : Int), (cols : Int)), L) := by
 have hrows := hG.rows
 have hwide := hG.wide
 exact ZG ⟨by omega, by omega⟩ ⟨by omega, by omega⟩ r c a b
theorem a73 (hG : GOk L cols) (hr : row < L.length) (hc : col < cols) {dr dc : Int} (h1 : -1000 ≤ dr ∧ dr ≤ 1000) (h2 : -1000 ≤ dc ∧ dc ≤ 1000) (h0 h1' h2' n st p1 p2 p3 : Int) (w : Bool) (ns : List Int) :
  jP (dr, dc) (h0, h1', h2', n, st, p1, p2, p3, w) ((row : Int), (col : Int), (cols : Int)) L ns = some ((h0, h1', h2', n, st, p1, p2, p3, false), ((qX ((row : Int) + dr) L.length : Int), (qX ((col : Int) + dc) cols : Int), (cols : Int)), L, ns) := by
 have hrows := hG.rows
 have hwide := hG.wide
 have a1 := a1Z hG ((row : Int) + dr) ((col : Int) + dc) row col
 unfold jP
 simp (disch := omega) only [q8, qc, qg, qw, qm, qj, qy, a1]
def a35 (L : qx) (r f t ba : Int) : qx := (kZ L r fun l => (jA (v6 l f t 0 0 ba), K8 0 0 ba)).2
theorem VO (hG : GOk L cols) (r f t : Int) {ba : Int} (hb : u8r ba) : GOk (a35 L r f t ba) cols ∧ (a35 L r f t ba).length = L.length :=
 ⟨hG.turn _ _ fun l hl hp => a4y hl XC XC hb hp, Jj _ _ _⟩
theorem a0i (hG : GOk L cols) (r f t ba : Int) (g : Int × (Int × Int)) : zm (r, f, t, 0, 0, ba) g L = some (g, a35 L r f t ba) := a4w hG.small r f t 0 0 ba g
def a1P (L : qx) (cols row col : Nat) (ba k : Int) : qx := if k = 0 then a35 L row col cols ba else if k = 1 then a35 L row 0 ((col + 1 : Nat) : Int) ba else if k = 2 then a35 L row 0 cols ba else L
theorem a8Z (hG : GOk L cols) (row col : Nat) {ba : Int} (hb : u8r ba) (k : Int) : GOk (a1P L cols row col ba k) cols ∧ (a1P L cols row col ba k).length = L.length := by
 unfold a1P
 split
 ·exact VO hG _ _ _ hb
 ·split
  ·exact VO hG _ _ _ hb
  ·split
   ·exact VO hG _ _ _ hb
   ·exact ⟨hG, rfl⟩
theorem a3B (hG : GOk L cols) (hr : row < L.length) (hc : col < cols) (kd r : Int) (es : List Int) (h0 h1 h2 n st p1 p2 p3 : Int) (w : Bool) (ns : List Int) :
  QQ (kd, r, es) (h0, h1, h2, n, st, p1, p2, p3, w) ((row : Int), (col : Int), (cols : Int)) L ns = some ((h0, h1, h2, n, st, p1, p2, p3, w), ((row : Int), (col : Int), (cols : Int)), a1P L cols row col p3 (jB es 0 0), ns) := by
 have hrows := hG.rows
 have hwide := hG.wide
 have hn := WW kd r es 0 0
 have z0 : ((0 : Nat) : Int) = 0 := rfl
 rw [z0] at hn
 have a1 := fun r f t => a0i hG r f t p3 ((row : Int), (col : Int), (cols : Int))
 have e : (col : Int) + 1 = ((col + 1 : Nat) : Int) := by omega
 unfold QQ a1P
 by_cases k0 : jB es 0 0 = 0
 ·rw [if_pos k0]
  simp (disch := omega) only [q8, zL, qY, qc, qg, qk, qw, qm, hn, qj, qy, qA, qJ, a1]
 ·rw [if_neg k0]
  by_cases k1 : jB es 0 0 = 1
  ·rw [if_pos k1]
   simp (disch := omega) only [q8, zL, qY, qc, qg, qk, qw, qm, hn, qj, qy, qA, qJ, a1, e]
  ·rw [if_neg k1]
   by_cases k2 : jB es 0 0 = 2
   ·rw [if_pos k2]
    simp (disch := omega) only [q8, zL, qY, qc, qg, qk, qw, qm, hn, qj, qy, qA, qJ, a1]
   ·rw [if_neg k2]
    simp (disch := omega) only [q8, qY, qg, qk, qw, qm, hn]
def vo (L : qx) (cols row : Nat) (ba k : Int) : Nat → qx
 | 0 => L
 | i + 1 => if k = 2 ∨ k = 0 ∧ row < i ∨ k = 1 ∧ i < row then a35 (vo L cols row ba k i) (i : Int) 0 cols ba else vo L cols row ba k i
theorem VU (hG : GOk L cols) (row : Nat) {ba : Int} (hb : u8r ba) (k : Int) : ∀ i, GOk (vo L cols row ba k i) cols ∧ (vo L cols row ba k i).length = L.length
 | 0 => ⟨hG, rfl⟩
 | i + 1 => by
  obtain ⟨h1, h2⟩ := VU hG row hb k i
  unfold vo
  split
  ·obtain ⟨h3, h4⟩ := VO h1 (i : Int) 0 cols hb
   exact ⟨h3, h4.trans h2⟩
  ·exact ⟨h1, h2⟩
end
section
variable {L : qx} {cols row col : Nat}
theorem aa9 (hG : GOk L cols) (hr : row < L.length) (hc : col < cols) (kd r : Int) (es : List Int) (h0 h1 h2 n st p1 p2 : Int) {p3 : Int} (hb : u8r p3) (w : Bool) (ns : List Int) :
  Jp (kd, r, es) (h0, h1, h2, n, st, p1, p2, p3, w) ((row : Int), (col : Int), (cols : Int)) L ns = some ((h0, h1, h2, n, st, p1, p2, p3, w), ((row : Int), (col : Int), (cols : Int)), a1P (vo L cols row p3 (jB es 0 0) L.length) cols row col p3 (jB es 0 0), ns) := by
 have hrows := hG.rows
 have hwide := hG.wide
 have hn := WW kd r es 0 0
 have z0 : ((0 : Nat) : Int) = 0 := rfl
 rw [z0] at hn
 have main : Yt ((jB es 0 0, ((L.length : Int), (0 : Int))), ((h0, h1, h2, n, st, p1, p2, p3, w), (((row : Int), (col : Int), (cols : Int)), (L, (ns, (kd, r, es)))))) = some ((h0, h1, h2, n, st, p1, p2, p3, w), ((row : Int), (col : Int), (cols : Int)), a1P (vo L cols row p3 (jB es 0 0) L.length) cols row col p3 (jB es 0 0), ns) := by
  refine jd (step := fun s => zM s.1 s.2.1 s.2.2.1 s.2.2.2.1 s.2.2.2.2.1 s.2.2.2.2.2.1 s.2.2.2.2.2.2.1 s.2.2.2.2.2.2.2) (st := fun i => ((jB es 0 0, ((L.length : Int), ((i : Nat) : Int))), ((h0, h1, h2, n, st, p1, p2, p3, w), (((row : Int), (col : Int), (cols : Int)), (vo L cols row p3 (jB es 0 0) i, (ns, (kd, r, es))))))) (n := L.length) (fun i hi => ?_) ?_ 0 (by omega)
  ·show zM _ _ _ _ _ _ _ _ = _
   obtain ⟨q1, q2⟩ := VU hG row hb (jB es 0 0) i
   have e : ((i : Int) + 1) = ((i + 1 : Nat) : Int) := by omega
   have e2 : vo L cols row p3 (jB es 0 0) (i + 1) = if jB es 0 0 = 2 ∨ jB es 0 0 = 0 ∧ row < i ∨ jB es 0 0 = 1 ∧ i < row then a35 (vo L cols row p3 (jB es 0 0) i) (i : Int) 0 cols p3 else vo L cols row p3 (jB es 0 0) i := rfl
   rw [e2]
   have a1 := a0i q1 (i : Int) 0 (cols : Int) p3 ((row : Int), (col : Int), (cols : Int))
   generalize vo L cols row p3 (jB es 0 0) i = A at *
   generalize jB es 0 0 = k at *
   unfold zM
   by_cases k2 : k = 2
   ·rw [if_pos (.inl k2)]
    simp (disch := omega) only [q8, qn, zL, qY, qc, qg, qk, qw, qm, qj, qA, qJ, a1, e]
   ·by_cases k0 : k = 0
    ·by_cases h : row < i
     ·rw [if_pos (.inr (.inl ⟨k0, h⟩))]
      simp (disch := omega) only [q8, qn, qt, zL, qY, qc, qg, qk, qw, qm, qj, qA, qJ, a1, e]
     ·rw [if_neg (by omega)]
      simp (disch := omega) only [q8, qn, qt, zL, qY, qc, qg, qk, qw, qm, qj, qA, qJ, a1, e]
    ·by_cases k1 : k = 1
     ·by_cases h : i < row
      ·rw [if_pos (.inr (.inr ⟨k1, h⟩))]
       simp (disch := omega) only [q8, qn, qt, zL, qY, qc, qg, qk, qw, qm, qj, qA, qJ, a1, e]
      ·rw [if_neg (by omega)]
       simp (disch := omega) only [q8, qn, qt, zL, qY, qc, qg, qk, qw, qm, qj, qA, qJ, a1, e]
     ·rw [if_neg (by omega)]
      simp (disch := omega) only [q8, qn, qY, qc, qg, qk, qw, qm, qj, qA, qJ, a1, e]
  ·show zM _ _ _ _ _ _ _ _ = _
   obtain ⟨q1, q2⟩ := VU hG row hb (jB es 0 0) L.length
   have a1 := a3B (row := row) q1 (by omega) hc kd r es h0 h1 h2 n st p1 p2 p3 w ns
   unfold zM
   simp (disch := omega) only [q8, qt, qc, qg, qk, qw, qm, a1]
 unfold Jp
 simp (disch := omega) only [q8, qg, qw, qm, hn, wa, main]
end
def yq (v : Int) : Int := if v = -1 then 0 else v
def ZZ (p : Int × (Int × Int)) (es : List Int) : Int × (Int × Int) := if es.length = 0 then (0, (0, 0)) else wk p (es.map yq)
theorem ag1 {es : List Int} {i : Nat} {v : Int} (h : es[i]? = some v) : jB es i 0 = yq v := by unfold jB yq; rw [h]
theorem agj {es : List Int} (h : ∀ v ∈ es, yA v) : ∀ v ∈ es.map yq, yA v := by
 intro v hv
 obtain ⟨u, hu, rfl⟩ := List.mem_map.1 hv
 have := h u hu
 unfold yq
 split
 ·unfold yA; omega
 ·exact this
theorem a6N {kd r : Int} {es : List Int} (hl : es.length ≤ 1000) (he : ∀ v ∈ es, yA v) (h0 h1 h2 n st : Int) {p1 p2 p3 : Int} (hp : PenOk (p1, p2, p3)) (w : Bool) (g : Int × (Int × Int)) (L : qx) (ns : List Int) :
  Zk (kd, r, es) (h0, h1, h2, n, st, p1, p2, p3, w) g L ns = some ((h0, h1, h2, n, st, (ZZ (p1, p2, p3) es).1, (ZZ (p1, p2, p3) es).2.1, (ZZ (p1, p2, p3) es).2.2, w), g, L, ns) := by
 have hcl : wc es = some es := by
  unfold wc
  by_cases h : es.length = 0
  ·have : es = [] := List.length_eq_zero_iff.1 h
   subst this
   simp (disch := omega) only [q8, qn, qg, zQ, qm, true_and, Xh, List.append_nil]
  ·simp (disch := omega) only [q8, qn, qt, qg, qk, qm, true_and, List.nil_append, Nat.zero_add]
 have ht := Xo hp (l := es.map yq) (by rw [List.length_map]; omega) (agj he)
 rw [List.length_map] at ht
 have main : JJ (((es.length : Int), (0 : Int)), ((h0, h1, h2, n, st, p1, p2, p3, w), (g, (L, (ns, ((kd, r, es), es)))))) = some ((h0, h1, h2, n, st, (ZZ (p1, p2, p3) es).1, (ZZ (p1, p2, p3) es).2.1, (ZZ (p1, p2, p3) es).2.2, w), g, L, ns) := by
  refine jd (step := fun s => zI s.1 s.2.1 s.2.2.1 s.2.2.2.1 s.2.2.2.2.1 s.2.2.2.2.2.1 s.2.2.2.2.2.2) (st := fun i => (((es.length : Int), ((i : Nat) : Int)), ((h0, h1, h2, n, st, p1, p2, p3, w), (g, (L, (ns, ((kd, r, es), ((es.map yq).take i ++ es.drop i)))))))) (n := es.length) (fun i hi => ?_) ?_ 0 (by omega)
  ·show zI _ _ _ _ _ _ _ = _
   obtain ⟨v, hv⟩ := qS hi
   have e : ((i : Int) + 1) = ((i + 1 : Nat) : Int) := by omega
   have hlen : ((es.map yq).take i ++ es.drop i).length = es.length := by simp only [q8, jf, List.length_take, Qg, List.length_drop]; omega
   have hget : ((es.map yq).take i ++ es.drop i)[i]? = some v := by
    rw [List.getElem?_append_right (by rw [List.length_take, List.length_map]; omega), List.length_take, List.length_map, List.getElem?_drop, show i + (i - min i es.length) = i by omega]
    exact hv
   have hset : ((es.map yq).take i ++ es.drop i).set i (yq v) = (es.map yq).take (i + 1) ++ es.drop (i + 1) := by
    have hd : es.drop i = v :: es.drop (i + 1) := by
     obtain ⟨g1, g2⟩ := List.getElem?_eq_some_iff.1 hv
     rw [← g2]
     exact List.drop_eq_getElem_cons g1
    have hm : (es.map yq)[i]? = some (yq v) := by rw [List.getElem?_map, hv]; rfl
    rw [yE hm, hd, List.append_assoc, List.singleton_append]
    have hi2 : i = ((es.map yq).take i).length := by rw [List.length_take, List.length_map]; omega
    rw [List.set_append_right _ _ (by omega), show i - ((es.map yq).take i).length = 0 by omega]
    rfl
   have hn := WW kd r es i 0
   rw [ag1 hv] at hn
   have hl2 : ((es.map yq).take (i + 1) ++ es.drop (i + 1)).length = es.length := by simp only [q8, jf, List.length_take, Qg, List.length_drop]; omega
   unfold zI
   generalize (es.map yq).take i ++ es.drop i = A at *
   generalize (es.map yq).take (i + 1) ++ es.drop (i + 1) = B at *
   simp (disch := omega) only [q8, qn, qc, qg, qw, ze, qm, and_true, hn, hget, hset, hlen, hl2, e]
  ·show zI _ _ _ _ _ _ _ = _
   have ee : (es.map yq).take es.length ++ es.drop es.length = es.map yq := by
    rw [List.drop_length, List.append_nil, List.take_of_length_le (by simp)]
   unfold zI ZZ
   rw [ee]
   simp (disch := omega) only [q8, qn, qt, qc, qg, qk, qw, ze, Qg, qm, and_true, ht]
 unfold Zk
 simp (disch := omega) only [q8, qg, qw, qm, hcl, main]
theorem a3z {p : Int × (Int × Int)} (h : PenOk p) (es : List Int) : PenOk (ZZ p es) := by
 unfold ZZ
 split
 ·exact VE
 ·exact Qu h _
abbrev EmS : Type := qx × (Nat × (Nat × (Y4_ × Bool)))
abbrev EvT : Type := Int × (Int × List Int)
def doQ (L : qx) (cols row col : Nat) (p : Int × (Int × Int)) (w : Bool) (kd r : Int) (es : List Int) : EmS :=
 if kd = 1 then ((jt L cols row col p w r).1, (jt L cols row col p w r).2.1, (jt L cols row col p w r).2.2.1, p, (jt L cols row col p w r).2.2.2)
 else if kd = 2 then (if r = 13 then (L, row, 0, p, false) else if r = 10 then ((ZX L cols row p.2.2).1, (ZX L cols row p.2.2).2, col, p, false) else if r = 8 then (L, row, col - 1, p, false) else (L, row, col, p, w))
 else if kd = 3 then
  (if r = 65 then (L, qX ((row : Int) - yt es 0) L.length, col, p, false)
  else if r = 66 then (L, qX ((row : Int) + yt es 0) L.length, col, p, false)
  else if r = 67 then (L, row, qX ((col : Int) + yt es 0) cols, p, false)
  else if r = 68 then (L, row, qX ((col : Int) - yt es 0) cols, p, false)
  else if r = 72 then (L, qX (yt es 0 - 1) L.length, qX (yt es 1 - 1) cols, p, false)
  else if r = 74 then (a1P (vo L cols row p.2.2 (jB es 0 0) L.length) cols row col p.2.2 (jB es 0 0), row, col, p, w)
  else if r = 75 then (a1P L cols row col p.2.2 (jB es 0 0), row, col, p, w)
  else if r = 109 then (L, row, col, ZZ p es, w)
  else (L, row, col, p, w))
 else (L, row, col, p, w)
structure EmOk (rows cols : Nat) (s : EmS) : Prop where
 g : GOk s.1 cols
 len : s.1.length = rows
 row : s.2.1 < rows
 col : s.2.2.1 < cols
 pen : PenOk s.2.2.2.1
structure EvOk (x : EvT) : Prop where
 r : Zi x.2.1
 n : x.2.2.length ≤ 1000
 i : ∀ v ∈ x.2.2, yA v
theorem aer {p : Int × (Int × Int)} (h : PenOk p) : u8r p.2.2 := by have := h.ba; unfold u8r; omega
theorem ai0 {rows cols row col : Nat} {L : qx} {p : Int × (Int × Int)} {w : Bool} (h : EmOk rows cols (L, row, col, p, w)) {kd r : Int} {es : List Int} (hx : EvOk (kd, r, es)) : EmOk rows cols (doQ L cols row col p w kd r es) := by
 have hG := h.g
 have hlen : L.length = rows := h.len
 have hr : row < rows := h.row
 have hc : col < cols := h.col
 have hp : PenOk p := h.pen
 have hr' : row < L.length := by omega
 have hb := aer hp
 have hrows := hG.rows
 have hwide := hG.wide
 have hrows' : 1 ≤ L.length := hrows.1
 have hwide' : 1 ≤ cols := hwide.1
 have hR : ∀ n : Int, qX n L.length < rows := fun n => by have := a4D (n := n) hrows'; omega
 have hC : ∀ n : Int, qX n cols < cols := fun n => a4D hwide'
 unfold doQ
 split
 ·obtain ⟨q1, q2, q3, q4⟩ := a9I hG hr' hc hp w hx.r
  exact ⟨q1, q2.trans hlen, by rw [← hlen]; exact q3, q4, hp⟩
 ·split
  ·split
   ·exact ⟨hG, hlen, hr, by show 0 < cols; omega, hp⟩
   ·split
    ·obtain ⟨q1, q2, q3⟩ := XG hG hr' hb
     exact ⟨q1, q2.trans hlen, by rw [← hlen]; exact q3, hc, hp⟩
    ·split
     ·exact ⟨hG, hlen, hr, by show col - 1 < cols; omega, hp⟩
     ·exact h
  ·split
   ·split
    ·exact ⟨hG, hlen, hR _, hc, hp⟩
    ·split
     ·exact ⟨hG, hlen, hR _, hc, hp⟩
     ·split
      ·exact ⟨hG, hlen, hr, hC _, hp⟩
      ·split
       ·exact ⟨hG, hlen, hr, hC _, hp⟩
       ·split
        ·exact ⟨hG, hlen, hR _, hC _, hp⟩
        ·split
         ·obtain ⟨q1, q2⟩ := VU hG row hb (jB es 0 0) L.length
          obtain ⟨q3, q4⟩ := a8Z q1 row col hb (jB es 0 0)
          exact ⟨q3, (q4.trans q2).trans hlen, hr, hc, hp⟩
         ·split
          ·obtain ⟨q3, q4⟩ := a8Z hG row col hb (jB es 0 0)
           exact ⟨q3, q4.trans hlen, hr, hc, hp⟩
          ·split
           ·exact ⟨hG, hlen, hr, hc, a3z hp es⟩
           ·exact h
   ·exact h
theorem afS {rows cols row col : Nat} {L : qx} {p : Int × (Int × Int)} {w : Bool} (h : EmOk rows cols (L, row, col, p, w)) {kd r : Int} {es : List Int} (hx : EvOk (kd, r, es)) {l : List EvT} {i : Nat} (hl : l.length ≤ 1000000) (hi : l[i]? = some (kd, r, es)) (h0 h1 h2 n st : Int) (ns : List Int) :
  zY (l, ((l.length : Int), (i : Int))) (h0, h1, h2, n, st, p.1, p.2.1, p.2.2, w) ((row : Int), (col : Int), (cols : Int)) L ns =
   some (.inl ((l, ((l.length : Int), ((i + 1 : Nat) : Int))), ((h0, h1, h2, n, st, (doQ L cols row col p w kd r es).2.2.2.1.1, (doQ L cols row col p w kd r es).2.2.2.1.2.1, (doQ L cols row col p w kd r es).2.2.2.1.2.2, (doQ L cols row col p w kd r es).2.2.2.2), (((doQ L cols row col p w kd r es).2.1 : Int), ((doQ L cols row col p w kd r es).2.2.1 : Int), (cols : Int)), (doQ L cols row col p w kd r es).1, ns))) := by
 obtain ⟨p1, p2, p3⟩ := p
 have hG : GOk L cols := h.g
 have hlen : L.length = rows := h.len
 have hr : row < rows := h.row
 have hc : col < cols := h.col
 have hp : PenOk (p1, p2, p3) := h.pen
 have hr' : row < L.length := by omega
 have hb : u8r p3 := aer hp
 have hrows := hG.rows
 have hwide := hG.wide
 have hil : i < l.length := (List.getElem?_eq_some_iff.1 hi).1
 have e : ((i : Int) + 1) = ((i + 1 : Nat) : Int) := by omega
 have z0 : ((0 : Nat) : Int) = 0 := rfl
 have z1 : ((1 : Nat) : Int) = 1 := rfl
 have ht0 := a2O kd r es 0
 have ht1 := a2O kd r es 1
 rw [z0] at ht0
 rw [z1] at ht1
 have hle0 := ae7 es 0
 have hle1 := ae7 es 1
 have hmv := fun dr dc a b => a73 hG hr' hc (dr := dr) (dc := dc) a b h0 h1 h2 n st p1 p2 p3 w ns
 have er : (row : Int) + 0 = row := by omega
 have ec : (col : Int) + 0 = col := by omega
 have br := Z7 hr'
 have bc := Z7 hc
 unfold zY doQ
 by_cases k1 : kd = 1
 ·rw [if_pos k1]
  have a1 := a8a hG hr' hc hx.r h0 h1 h2 n st hp w ns
  simp (disch := omega) only [q8, qn, zL, qY, qc, qg, qk, qw, ze, qm, hi, a1, e]
 ·rw [if_neg k1]
  by_cases k2 : kd = 2
  ·rw [if_pos k2]
   unfold QI
   by_cases r1 : r = 13
   ·rw [if_pos r1]
    have a1 := a1Z hG (row : Int) 0 row col
    have b0 : qX (0 : Int) cols = 0 := by unfold qX; omega
    rw [br, b0] at a1
    simp (disch := omega) only [q8, qn, qt, zL, qY, qc, qg, qk, qw, ze, qm, hi, qj, a1, e]
   ·rw [if_neg r1]
    by_cases r2 : r = 10
    ·rw [if_pos r2]
     have a1 := a06 hG hr' hc h0 h1 h2 n st p1 p2 p3 w ns
     simp (disch := omega) only [q8, qn, qt, zL, qY, qc, qg, qk, qw, ze, qm, hi, a1, e]
    ·rw [if_neg r2]
     by_cases r3 : r = 8
     ·rw [if_pos r3]
      have a1 := a1Z hG (row : Int) ((col : Int) - 1) row col
      have b0 : qX ((col : Int) - 1) cols = col - 1 := by unfold qX; omega
      rw [br, b0] at a1
      simp (disch := omega) only [q8, qn, qt, zL, qY, qc, qg, qk, qw, ze, qm, hi, qj, qy, a1, e]
     ·rw [if_neg r3]
      simp (disch := omega) only [q8, qn, zL, qY, qc, qg, qk, qw, ze, qm, hi, e]
  ·rw [if_neg k2]
   by_cases k3 : kd = 3
   ·rw [if_pos k3]
    by_cases r1 : r = 65
    ·rw [if_pos r1]
     have a1 := hmv (0 - yt es 0) 0 (by omega) (by omega)
     rw [ec, bc, show (row : Int) + (0 - yt es 0) = (row : Int) - yt es 0 by omega] at a1
     unfold X1
     simp (disch := omega) only [q8, qn, qt, zL, qY, qc, qg, qk, qw, ze, qm, hi, ht0, a1, e]
    ·rw [if_neg r1]
     by_cases r2 : r = 66
     ·rw [if_pos r2]
      have a1 := hmv (yt es 0) 0 (by omega) (by omega)
      rw [ec, bc] at a1
      unfold Km
      simp (disch := omega) only [q8, qn, qt, zL, qY, qc, qg, qk, qw, ze, qm, hi, ht0, a1, e]
     ·rw [if_neg r2]
      by_cases r3 : r = 67
      ·rw [if_pos r3]
       have a1 := hmv 0 (yt es 0) (by omega) (by omega)
       rw [er, br] at a1
       unfold KA
       simp (disch := omega) only [q8, qn, qt, zL, qY, qc, qg, qk, qw, ze, qm, hi, ht0, a1, e]
      ·rw [if_neg r3]
       by_cases r4 : r = 68
       ·rw [if_pos r4]
        have a1 := hmv 0 (0 - yt es 0) (by omega) (by omega)
        rw [er, br, show (col : Int) + (0 - yt es 0) = (col : Int) - yt es 0 by omega] at a1
        unfold Wm
        simp (disch := omega) only [q8, qn, qt, zL, qY, qc, qg, qk, qw, ze, qm, hi, ht0, a1, e]
       ·rw [if_neg r4]
        by_cases r5 : r = 72
        ·rw [if_pos r5]
         have a1 := a1Z hG (yt es 0 - 1) (yt es 1 - 1) row col
         unfold Kt
         simp (disch := omega) only [q8, qn, qt, zL, qY, qc, qg, qk, qw, ze, qm, hi, ht0, ht1, a1, e]
        ·rw [if_neg r5]
         by_cases r6 : r = 74
         ·rw [if_pos r6]
          have a1 := aa9 hG hr' hc kd r es h0 h1 h2 n st p1 p2 hb w ns
          simp (disch := omega) only [q8, qn, qt, zL, qY, qc, qg, qk, qw, ze, qm, hi, a1, e]
         ·rw [if_neg r6]
          by_cases r7 : r = 75
          ·rw [if_pos r7]
           have a1 := a3B hG hr' hc kd r es h0 h1 h2 n st p1 p2 p3 w ns
           simp (disch := omega) only [q8, qn, qt, zL, qY, qc, qg, qk, qw, ze, qm, hi, a1, e]
          ·rw [if_neg r7]
           by_cases r8 : r = 109
           ·rw [if_pos r8]
            have a1 := a6N (kd := kd) (r := r) hx.n hx.i h0 h1 h2 n st hp w ((row : Int), (col : Int), (cols : Int)) L ns
            simp (disch := omega) only [q8, qn, qt, zL, qY, qc, qg, qk, qw, ze, qm, hi, a1, e]
           ·rw [if_neg r8]
            simp (disch := omega) only [q8, qn, qt, zL, qY, qc, qg, qk, qw, ze, qm, hi, e]
   ·rw [if_neg k3]
    simp (disch := omega) only [q8, qn, qY, qc, qg, qk, qw, ze, qm, hi, e]
def doS (cols : Nat) (s : EmS) (x : EvT) : EmS := doQ s.1 cols s.2.1 s.2.2.1 s.2.2.2.1 s.2.2.2.2 x.1 x.2.1 x.2.2
def doL (cols : Nat) (s : EmS) (l : List EvT) : EmS := l.foldl (doS cols) s
theorem a1j {rows cols : Nat} : ∀ {l : List EvT} {s : EmS}, EmOk rows cols s → (∀ x ∈ l, EvOk x) → EmOk rows cols (doL cols s l)
 | [], s, h, _ => h
 | x :: l, s, h, hl => a1j (l := l) (ai0 (kd := x.1) (r := x.2.1) (es := x.2.2) h (hl x List.mem_cons_self)) fun y hy => hl y (List.mem_cons_of_mem _ hy)
theorem adu (cols : Nat) (s : EmS) {l : List EvT} {i : Nat} {x : EvT} (h : l[i]? = some x) : doL cols s (l.take (i + 1)) = doS cols (doL cols s (l.take i)) x := by
 rw [yE h]
 unfold doL
 rw [List.foldl_append]
 rfl
abbrev emE (h0 h1 h2 n st : Int) (s : EmS) : EmT := (h0, h1, h2, n, st, s.2.2.2.1.1, s.2.2.2.1.2.1, s.2.2.2.1.2.2, s.2.2.2.2)
theorem a92 {rows cols : Nat} {s : EmS} (h : EmOk rows cols s) {l : List EvT} (hl : ∀ x ∈ l, EvOk x) (hn : l.length ≤ 1000000) (h0 h1 h2 n st : Int) (ns : List Int) :
  yT l (emE h0 h1 h2 n st s) ((s.2.1 : Int), (s.2.2.1 : Int), (cols : Int)) s.1 ns = some (emE h0 h1 h2 n st (doL cols s l), (((doL cols s l).2.1 : Int), ((doL cols s l).2.2.1 : Int), (cols : Int)), (doL cols s l).1, ns) := by
 have main : V3 ((l, ((l.length : Int), (0 : Int))), (emE h0 h1 h2 n st s, (((s.2.1 : Int), (s.2.2.1 : Int), (cols : Int)), (s.1, ns)))) = some (emE h0 h1 h2 n st (doL cols s l), (((doL cols s l).2.1 : Int), ((doL cols s l).2.2.1 : Int), (cols : Int)), (doL cols s l).1, ns) := by
  refine jd (step := fun s => zY s.1 s.2.1 s.2.2.1 s.2.2.2.1 s.2.2.2.2) (st := fun i => ((l, ((l.length : Int), ((i : Nat) : Int))), (emE h0 h1 h2 n st (doL cols s (l.take i)), ((((doL cols s (l.take i)).2.1 : Int), ((doL cols s (l.take i)).2.2.1 : Int), (cols : Int)), ((doL cols s (l.take i)).1, ns))))) (n := l.length) (fun i hi => ?_) ?_ 0 (by omega)
  ·obtain ⟨x, hx⟩ := qS hi
   have hok := a1j (l := l.take i) h fun y hy => hl y (List.mem_of_mem_take hy)
   have := afS hok (kd := x.1) (r := x.2.1) (es := x.2.2) (hl x (List.mem_of_getElem? hx)) hn hx h0 h1 h2 n st ns
   rw [adu cols s hx]
   exact this
  ·show zY _ _ _ _ _ = _
   have e : l.take l.length = l := List.take_length
   unfold zY
   rw [e]
   simp (disch := omega) only [q8, qn, qt, zL, qY, ag5, afN, qc, a2j, QU, uf, qg, qk, qw, Option.bind_none, ze, jf, y7, zQ, Qg, ac4, jE, K6, qm, decide_false, zE, jg, true_and, and_true, and_self]
 unfold yT
 simp (disch := omega) only [q8, qn, qt, zL, qY, ag5, afN, qc, a2j, QU, uf, qg, qk, qw, Option.bind_none, ze, jf, y7, zQ, Qg, ac4, jE, K6, qm, decide_false, zE, jg, true_and, and_true, and_self, main]
def ZJ (rows cols : Nat) : EmS := (List.replicate rows (jO (cols : Int)), 0, 0, (0, 0, 0), false)
theorem afy {rows cols : Nat} (hr : qO (rows : Int) = true) (hc : qO (cols : Int) = true) : EmOk rows cols (ZJ rows cols) := by
 have hr' : 1 ≤ (rows : Int) ∧ (rows : Int) ≤ 512 := by unfold qO at hr; simpa using hr
 have hc' : 1 ≤ (cols : Int) ∧ (cols : Int) ≤ 512 := by unfold qO at hc; simpa using hc
 exact ⟨GOk.new hr hc, List.length_replicate, by show 0 < rows; omega, by show 0 < cols; omega, VE⟩
theorem acj {rows cols : Nat} (hr : qO (rows : Int) = true) (hc : qO (cols : Int) = true) : Jk (rows : Int) (cols : Int) = some (.inr (emE 0 0 0 0 0 (ZJ rows cols), ((0 : Int), (0 : Int), (cols : Int)), (ZJ rows cols).1, [])) := by
 have a1 := a9E (rows : Int) (cols : Int)
 rw [if_pos ⟨hr, hc⟩, Int.toNat_natCast] at a1
 unfold Jk
 simp (disch := omega) only [q8, qn, qt, zL, qY, ag5, afN, qc, a2j, QU, uf, qg, qk, qw, Option.bind_none, ze, jf, y7, zQ, Qg, ac4, jE, K6, qm, decide_false, zE, jg, true_and, and_true, and_self, a1]
 rfl
def jb (b : Int) : Prop := 97 ≤ b ∧ b < 123
theorem ZQ {b : Int} (h : jb b) : zj b = 1 := by
 obtain ⟨h1, h2⟩ := h
 have hs : V8 b = true := by
  unfold V8
  rw [decide_eq_true (show (0 : Int) ≤ b by omega), decide_eq_true (show b < 55296 by omega)]
  rfl
 have tab : ∀ n : Fin 26, inR VV ((97 : Int) + (n.val : Int)) = false ∧ inR Kf ((97 : Int) + (n.val : Int)) = false := by decide +kernel
 obtain ⟨t1, t2⟩ := tab ⟨(b - 97).toNat, by omega⟩
 have e : (97 : Int) + (((b - 97).toNat : Nat) : Int) = b := by omega
 simp only [q8, e] at t1 t2
 unfold zj
 rw [if_neg (by omega), if_pos hs, t1, t2]
 rfl
theorem UT {b : Int} (h : jb b) (p : Int × (Int × Int)) : (wu b p).2.2.1 = 1 := ZQ h
theorem a7T {b : Int} (h : jb b) {p : Int × (Int × Int)} (hp : PenOk p) : zU (wu b p) = true := by
 have h1 := hp.f
 have h2 := hp.fo
 have h3 := hp.ba
 have hpp : K8 p.1 p.2.1 p.2.2 = true := by
  unfold K8
  rw [decide_eq_true h1.2, decide_eq_true h2.2, decide_eq_true h3.2]
  rfl
 unfold zU wu
 simp only [q8, hpp, ZQ h]
 rfl
def K7 (l : List Int) (p : Int × (Int × Int)) (cols k : Nat) : List qf := (l.take k).map (fun b => wu b p) ++ List.replicate (cols - k) (zi 0 0 0)
theorem adT {l : List Int} {p : Int × (Int × Int)} {cols k : Nat} (hk : k ≤ l.length) (hc : k ≤ cols) : (K7 l p cols k).length = cols := by
 unfold K7
 simp only [q8, jf, Qg, List.length_take, List.length_replicate]
 omega
theorem ahP {l : List Int} {p : Int × (Int × Int)} {cols k : Nat} (hl : ∀ b ∈ l, jb b) : ∀ c ∈ K7 l p cols k, c.2.2.1 = 1 := by
 intro c hc
 unfold K7 at hc
 rcases List.mem_append.1 hc with h | h
 ·obtain ⟨b, hb, rfl⟩ := List.mem_map.1 h
  exact UT (hl b (List.mem_of_mem_take hb)) p
 ·rw [List.eq_of_mem_replicate h]
  rfl
theorem aay {l : List qf} (h : ∀ c ∈ l, c.2.2.1 = 1) : jA l = l := by
 refine List.ext_getElem? fun i => ?_
 cases hx : l[i]? with
 | none =>
  rw [List.getElem?_eq_none (by rw [kX]; exact List.getElem?_eq_none_iff.1 hx)]
 | some c =>
  have hw := h c (List.mem_of_getElem? hx)
  exact JC hx (VR hx (by omega) (by omega))
theorem acG {l : List Int} {p : Int × (Int × Int)} {cols k : Nat} {b : Int} (hb : l[k]? = some b) (hc : k < cols) : (K7 l p cols k).set k (wu b p) = K7 l p cols (k + 1) := by
 have hk : k < l.length := (List.getElem?_eq_some_iff.1 hb).1
 unfold K7
 rw [yE hb, List.map_append, List.append_assoc]
 have hlen : ((l.take k).map fun b => wu b p).length = k := by simp only [q8, Qg, List.length_take]; omega
 rw [List.set_append_right _ _ (by omega), hlen, Nat.sub_self]
 congr 1
 obtain ⟨n, hn⟩ : ∃ n, cols - k = n + 1 := ⟨cols - k - 1, by omega⟩
 rw [hn, show cols - (k + 1) = n by omega]
 rfl
theorem ae2 {l : List Int} {p : Int × (Int × Int)} {cols k : Nat} {b : Int} (hl : ∀ b ∈ l, jb b) (hp : PenOk p) (hb : l[k]? = some b) (hc : k < cols) : Qd (K7 l p cols k) (k : Int) (wu b p) = (K7 l p cols (k + 1), true) := by
 have hk : k < l.length := (List.getElem?_eq_some_iff.1 hb).1
 have hB := hl b (List.mem_of_getElem? hb)
 have hlen := adT (p := p) (Nat.le_of_lt hk) (Nat.le_of_lt hc)
 have hw := UT hB p
 unfold Qd
 rw [if_pos ⟨by omega, a7T hB hp, by omega, by rw [hlen]; omega, by rw [hlen, hw]; omega⟩, Int.toNat_natCast]
 unfold a2H
 rw [if_neg (by omega), acG hb hc, aay (ahP hl)]
def zd (rows cols row : Nat) (l : List Int) (p : Int × (Int × Int)) (k : Nat) : qx := (List.replicate rows (jO (cols : Int))).set row (K7 l p cols k)
theorem ahT {rows cols row : Nat} (hr : row < rows) (hc : cols ≤ 512) (l : List Int) (p : Int × (Int × Int)) : zd rows cols row l p 0 = List.replicate rows (jO (cols : Int)) := by
 unfold zd K7
 have : jO (cols : Int) = List.replicate cols (zi 0 0 0) := by
  unfold jO Yw
  rw [if_neg (by omega), if_neg (by omega), Int.toNat_natCast]
 rw [this]
 simp only [q8, List.take_zero, List.map_nil, List.nil_append, Nat.sub_zero]
 refine List.ext_getElem? fun i => ?_
 rw [List.getElem?_set]
 split
 ·rename_i e
  subst e
  rw [if_pos (by rw [List.length_replicate]; exact hr), List.getElem?_replicate, if_pos hr]
 ·rfl
theorem a0R {rows cols row k : Nat} {l : List Int} {p : Int × (Int × Int)} {b : Int} (hl : ∀ b ∈ l, jb b) (hp : PenOk p) (hr : row < rows) (hb : l[k]? = some b) (hc : k + 1 < cols) :
  jt (zd rows cols row l p k) cols row k p false b = (zd rows cols row l p (k + 1), row, k + 1, false) := by
 have hB := hl b (List.mem_of_getElem? hb)
 have hw := ZQ hB
 have ht : (zj b).toNat = 1 := by rw [hw]; rfl
 have hat : atQ (zd rows cols row l p k) cols row k p.2.2 false 1 = ((zd rows cols row l p k, row), k) := by
  unfold atQ
  rw [if_neg (by simp; omega)]
 unfold jt
 rw [if_neg (by omega), if_neg (by omega), ht, hat]
 have hget : (zd rows cols row l p k)[row]? = some (K7 l p cols k) := by
  unfold zd
  rw [List.getElem?_set_self (by rw [List.length_replicate]; exact hr)]
 have hput := ae2 hl hp hb (show k < cols by omega)
 simp only [q8, VA (fun l' => Qd l' (k : Int) (wu b p)) hget, hput, if_true]
 have hset : (zd rows cols row l p k).set row (K7 l p cols (k + 1)) = zd rows cols row l p (k + 1) := by
  unfold zd
  rw [List.set_set]
 rw [hset, show min (k + 1) (cols - 1) = k + 1 by omega, decide_eq_false (show ¬ cols ≤ k + 1 by omega)]
set_option maxHeartbeats 0
open Go.Proofs
def Wv (x0 : Int) : Option Y4_ :=
 bif decide (x0 < 128) then
 some (((1 : Int)), (((128 : Int)), ((191 : Int))))
 else bif decide (x0 < 194) then
 some (((0 : Int)), (((128 : Int)), ((191 : Int))))
 else bif decide (244 < x0) then
 some (((0 : Int)), (((128 : Int)), ((191 : Int))))
 else bif decide (x0 < 224) then
 some (((2 : Int)), (((128 : Int)), ((191 : Int))))
 else bif x0 == 224 then
 some (((3 : Int)), (((160 : Int)), ((191 : Int))))
 else bif x0 == 237 then
 some (((3 : Int)), (((128 : Int)), ((159 : Int))))
 else bif x0 == 240 then
 some (((4 : Int)), (((144 : Int)), ((191 : Int))))
 else Option.bind (
 bif x0 == 241 then
 some (Sum.inl (((128 : Int)), (((191 : Int)), (((3 : Int)), (x0, true)))))
 else bif x0 == 242 then
 some (Sum.inl (((128 : Int)), (((191 : Int)), (((3 : Int)), (x0, true)))))
 else some (Sum.inl (((128 : Int)), (((191 : Int)), (((3 : Int)), (x0, (x0 == 243))))))) fun (x1 : ((Int × (Int × a70)) ⊕ Y4_)) =>
 match x1 with
         | Sum.inl x2 =>
          bif x2.2.2.2.2 then
          some (((4 : Int)), (x2.1, x2.2.1))
          else bif x2.2.2.2.1 == 244 then
          some (((4 : Int)), (x2.1, ((143 : Int))))
          else some (x2.2.2.1, (x2.1, x2.2.1))
         | Sum.inr x2 =>
          some x2
def a6A : TEnt := ⟨165, .int .u8, [], [(.tup (.cons (.int .i64) (.cons (.int .u8) (.int .u8))), [])], fun s => Wv s⟩
theorem uK : qK Try.prog a6A := kT (loops := []) (joins := [(20587962547081801, [5, 6, 7, 27, 34], (.cons (.int .u8) (.cons (.int .u8) (.cons (.int .i64) (.cons (.int .u8) .bool)))), [])]) (un := []) _ tn (fun s => by kernel_rfl) (by kernel_rfl)
def JE (x4 : (List Int)) (x5 : Int) (x6 : Int) (x7 : Int) (x8 : Int) (x9 : Int) : Option (((List Int) × (Int × (Int × Y4_))) ⊕ a70) :=
 bif decide (x9 < x5) then
 bif x9 == (↑(List.length x4) : Int) then
 some (Sum.inr (((0 : Int)), (((0 : Int)), true)))
 else bif decide (0 ≤ x9) then
 (x4[x9.toNat]?).bind fun x10 =>
 bif decide (x10 < x6) then
 some (Sum.inr (((65533 : Int)), (x9, false)))
 else bif decide (0 ≤ x9) then
 (x4[x9.toNat]?).bind fun x11 =>
 bif decide (x7 < x11) then
 some (Sum.inr (((65533 : Int)), (x9, false)))
 else bif decide (0 ≤ x9) then
 (x4[x9.toNat]?).bind fun x12 =>
 some (Sum.inl (x4, (x5, (((128 : Int)), (((191 : Int)), ((Go.bits Go.BinOp.or IntKind.i32 (IntKind.i32.wrap (x8 * (64 : Int))) (IntKind.i32.wrap (Go.bits Go.BinOp.and IntKind.u8 x12 (63 : Int)))), (IntKind.i64.wrap (x9 + (1 : Int)))))))))
 else none
 else none
 else none
 else some (Sum.inr (x8, (x5, false)))
def Xe : ((List Int) × (Int × (Int × Y4_))) → Option a70 := zO fun s => JE s.1 s.2.1 s.2.2.1 s.2.2.2.1 s.2.2.2.2.1 s.2.2.2.2.2
def QB (x0 : (List Int)) : Option a70 :=
 (x0[(0 : Nat)]?).bind fun x1 =>
 (Wv x1).bind fun x2 =>
 bif decide (x2.1 < 2) then
 bif x2.1 == 0 then
 some (((65533 : Int)), (((1 : Int)), false))
 else (x0[(0 : Nat)]?).bind fun x3 =>
 some ((IntKind.i32.wrap x3), (((1 : Int)), false))
 else (x0[(0 : Nat)]?).bind fun x3 =>
 bif decide (0 ≤ x2.1) then
 (Xe (x0, (x2.1, (x2.2.1, (x2.2.2, ((Go.bits Go.BinOp.and IntKind.i32 (IntKind.i32.wrap x3) (Int.fdiv (127 : Int) ((2 : Int) ^ Min.min x2.1.toNat (32 : Nat)))), ((1 : Int)))))))).bind fun x4 =>
 some x4
 else none
def a37 : TEnt := ⟨148, .sl (.int .u8), [], [(.tup (.cons (.int .i32) (.cons (.int .i64) .bool)), [])], fun s => QB s⟩
theorem xD : qK Try.prog a37 := kT (loops := [(2396746, [0, 5, 6, 7, 8, 9], (.cons (.sl (.int .u8)) (.cons (.int .i64) (.cons (.int .u8) (.cons (.int .u8) (.cons (.int .i32) (.int .i64)))))), [])]) (joins := []) (un := []) _ (tc uK tn) (fun s => by kernel_rfl) (by kernel_rfl)
def KN (x0 : Y3_) (x1 : Y4_) (x2 : (List Y1_)) (x3 : (List Int)) : Option (Y3_ × (Y4_ × ((List Y1_) × ((List Int) × (List Int))))) :=
 bif decide ((Option.some x0.2.2.2.1).getD (3 : Int) = (3 : Int)) then
 bif decide ((3 : Nat) ≤ (140737488355328 : Nat)) then
 kk x2 (kk x3 (bif decide ((3 : Nat) = (3 : Nat)) then
 some (x0, (x1, (x2, (x3, ([x0.1, x0.2.1, x0.2.2.1])))))
 else none))
 else none
 else bif decide ((Option.some x0.2.2.2.1).getD (3 : Int) = (2 : Int)) then
 bif decide ((2 : Nat) ≤ (140737488355328 : Nat)) then
 kk x2 (kk x3 (bif decide ((2 : Nat) = (2 : Nat)) then
 some (x0, (x1, (x2, (x3, ([x0.1, x0.2.1])))))
 else none))
 else none
 else bif decide ((Option.some x0.2.2.2.1).getD (3 : Int) = (1 : Int)) then
 bif decide ((1 : Nat) ≤ (140737488355328 : Nat)) then
 kk x2 (kk x3 (bif decide ((1 : Nat) = (1 : Nat)) then
 some (x0, (x1, (x2, (x3, [x0.1]))))
 else none))
 else none
 else bif decide ((Option.some x0.2.2.2.1).getD (3 : Int) = (0 : Int)) then
 kk x2 (kk x3 (some (x0, (x1, (x2, (x3, []))))))
 else none
def a3I : TEnt := ⟨123, .ptr 0 1, Y0_, [(.own 4, [.st (.cons (.ptr 1 0) Y7_), .st aat, .li (.sl Y2_) 151 false, .li (.int .i64) 3 false, .li (.int .u8) 5 false])], fun s => KN s.1 s.2.1 s.2.2.1 s.2.2.2⟩
theorem XH : qK Try.prog a3I := eo0 _ tn (fun s => by kernel_rfl) (by kernel_rfl)
def kW (x6 : (List Int)) (x7 : Y3_) (x8 : Y4_) (x9 : (List Int)) (x10 : (List Y1_)) (x11 : (List Int)) : Option (((List Int) × (Y3_ × (Y4_ × ((List Int) × ((List Y1_) × (List Int)))))) ⊕ ((List Int) × Y6_)) :=
 bif decide (0 < (↑(List.length x6) : Int)) then
 (QB x6).bind fun x12 =>
 bif x12.2.2 then
 bif decide ((↑(List.length x6) : Int) = (3 : Int)) then
 (x6[(0 : Nat)]?).bind fun x13 =>
 Option.bind ((List.drop (1 : Nat) x6)[(0 : Nat)]?) fun (x14 : Int) =>
 Option.bind ((List.drop (1 : Nat) (List.drop (1 : Nat) x6))[(0 : Nat)]?) fun (x15 : Int) =>
 kk x10 (kk x9 (kk x11 (some (Sum.inr (x11, ((x13, (x14, (x15, (((3 : Int)), x7.2.2.2.2)))), (x8, (x10, x9))))))))
 else bif decide ((↑(List.length x6) : Int) = (2 : Int)) then
 (x6[(0 : Nat)]?).bind fun x13 =>
 Option.bind ((List.drop (1 : Nat) x6)[(0 : Nat)]?) fun (x14 : Int) =>
 kk x10 (kk x9 (kk x11 (some (Sum.inr (x11, ((x13, (x14, (x7.2.2.1, (((2 : Int)), x7.2.2.2.2)))), (x8, (x10, x9))))))))
 else bif decide ((↑(List.length x6) : Int) = (1 : Int)) then
 (x6[(0 : Nat)]?).bind fun x13 =>
 kk x10 (kk x9 (kk x11 (some (Sum.inr (x11, ((x13, (x7.2.1, (x7.2.2.1, (((1 : Int)), x7.2.2.2.2)))), (x8, (x10, x9))))))))
 else bif decide ((↑(List.length x6) : Int) = (0 : Int)) then
 kk x10 (kk x9 (kk x11 (some (Sum.inr (x11, ((x7.1, (x7.2.1, (x7.2.2.1, (((0 : Int)), x7.2.2.2.2)))), (x8, (x10, x9))))))))
 else none
 else bif decide (0 ≤ x12.2.1 ∧ x12.2.1.toNat ≤ List.length x6) then
 bif decide ((1 : Nat) = (1 : Nat)) then
 bif decide (x11.length = x11.length ∧ x11.length + (1 : Nat) ≤ (35184372088832 : Nat)) then
 kk x10 (kk x9 (bif decide (x11.length + (1 : Nat) = (x11 ++ [x12.1]).length) then
 some (Sum.inl ((List.drop x12.2.1.toNat x6), (x7, (x8, (x9, (x10, (x11 ++ [x12.1])))))))
 else none))
 else none
 else none
 else none
 else kk x10 (kk x9 (kk x11 (some (Sum.inr (x11, (x7, (x8, (x10, x9))))))))
def jK : ((List Int) × (Y3_ × (Y4_ × ((List Int) × ((List Y1_) × (List Int)))))) → Option ((List Int) × Y6_) := zO fun s => kW s.1 s.2.1 s.2.2.1 s.2.2.2.1 s.2.2.2.2.1 s.2.2.2.2.2
def Q7 (x0 : (List Int)) (x1 : Y3_) (x2 : Y4_) (x3 : (List Y1_)) (x4 : (List Int)) : Option ((List Int) × Y6_) :=
 kk x3 (kk x4 ((KN x1 x2 x3 x4).bind fun x5 =>
 bif decide (x5.2.2.2.2.length = x5.2.2.2.2.length ∧ x5.2.2.2.2.length + List.length x0 ≤ (140737488355328 : Nat)) then
 kk x5.2.2.1 (kk x5.2.2.2.1 (bif decide ((x5.2.2.2.2 ++ x0).length = x5.2.2.2.2.length + List.length x0) then
 (jK ((x5.2.2.2.2 ++ x0), ((x5.1.1, (x5.1.2.1, (x5.1.2.2.1, (((0 : Int)), x5.1.2.2.2.2)))), (x5.2.1, (x5.2.2.2.1, (x5.2.2.1, [])))))).bind fun x6 =>
 some x6
 else none))
 else none))
def a8b : TEnt := ⟨117, .cons (.ptr 0 1) (.sl (.int .u8)), Y0_, [(.sl (.int .i32), Y0_)], fun s => Q7 s.1 s.2.1 s.2.2.1 s.2.2.2.1 s.2.2.2.2⟩
theorem Uv : qK Try.prog a8b := kT (loops := [(2396746, [0, 5, 6], (.cons (.ptr 0 1) (.cons (.own 4) (.sl (.int .u8)))), [.st (.cons (.ptr 1 0) (.cons (.int .u8) (.cons (.int .u8) (.cons (.int .u8) (.cons (.int .i64) (.cons (.int .i64) (.cons (.own 2) (.cons (.int .u8) (.cons (.int .u8) (.cons (.int .u8) .bool)))))))))), .st (.cons (.int .i64) (.cons (.int .i64) (.cons (.own 3) (.int .i64)))), .li (.int .i64) 3 false, .li (.sl Y2_) 151 false, .li (.int .i32) 21 false])]) (joins := []) (un := []) _ (tc xD (tc XH tn)) (fun s => by kernel_rfl) (by kernel_rfl)
def vC (x0 : Y3_) (x1 : Y4_) (x2 : (List Y1_)) (x3 : (List Int)) : Option ((List Int) × Y6_) :=
 bif x0.2.2.2.1 == 0 then
 kk x2 (kk x3 (some ([], (x0, (x1, (x2, x3))))))
 else kk x2 (kk x3 (some (([(65533 : Int)]), ((x0.1, (x0.2.1, (x0.2.2.1, (((0 : Int)), x0.2.2.2.2)))), (x1, (x2, x3))))))
def a4l : TEnt := ⟨116, .ptr 0 1, Y0_, [(.sl (.int .i32), Y0_)], fun s => vC s.1 s.2.1 s.2.2.1 s.2.2.2⟩
theorem Xb : qK Try.prog a4l := eo0 _ tn (fun s => by kernel_rfl) (by kernel_rfl)
def zP (x1 : YR) (x2 : (List Y9_)) : Option ((YR × (List Y9_)) ⊕ (List Y9_)) :=
 bif decide (x1.2.2 < x1.2.1) then
 bif decide (0 ≤ x1.2.2) then
 (x1.1[x1.2.2.toNat]?).bind fun x3 =>
 bif decide ((1 : Nat) = (1 : Nat)) then
 bif decide (x2.length = x2.length ∧ x2.length + (1 : Nat) ≤ (3518437208883 : Nat)) then
 bif decide (x2.length + (1 : Nat) = (x2 ++ [((1 : Int), x3, [])]).length) then
 some (Sum.inl ((x1.1, (x1.2.1, (IntKind.i64.wrap (x1.2.2 + (1 : Int))))), (x2 ++ [((1 : Int), x3, [])])))
 else none
 else none
 else none
 else none
 else kk x2 (some (Sum.inr x2))
def ke : (YR × (List Y9_)) → Option (List Y9_) := zO fun s => zP s.1 s.2
def km (x0 : (List Int)) : Option (List Y9_) :=
 (ke ((x0, (((↑x0.length : Int)), ((0 : Int)))), [])).bind fun x1 =>
 some x1
def Vi : TEnt := ⟨115, .sl (.int .i32), [], [(.sl a12, [])], fun s => km s⟩
theorem W9 : qK Try.prog Vi := kT (loops := [(4682, [3, 6, 7, 8], (.cons (.own 0) (.cons (.sl (.int .i32)) JF)), [.li a12 92 false])]) (joins := []) (un := []) _ tn (fun s => by kernel_rfl) (by kernel_rfl)
def jI (x0 : Y3_) (x1 : Y4_) (x2 : (List Y1_)) (x3 : (List Int)) : Option Y6_ :=
 bif decide (x3.length = x3.length ∧ x3.length + (1 : Nat) ≤ (17592186044416 : Nat)) then
 kk x2 (bif decide (x3.length + (1 : Nat) = (x3 ++ [(-1 : Int)]).length) then
 some (x0, (x1, (x2, (x3 ++ [(-1 : Int)]))))
 else none)
 else none
def ux : TEnt := ⟨149, .ptr 0 1, Y0_, [(.tup .nil, Y0_)], fun s => jI s.1 s.2.1 s.2.2.1 s.2.2.2⟩
theorem YF : qK Try.prog ux := eo0 _ tn (fun s => by kernel_rfl) (by kernel_rfl)
def JI (x0 : Int) (x1 : Y3_) (x2 : Y4_) (x3 : (List Y1_)) (x4 : (List Int)) : Option (Bool × Y6_) :=
 bif decide (64 ≤ x0) then
 kk x3 (kk x4 (some (true, ((x1.1, (x1.2.1, (x1.2.2.1, (x1.2.2.2.1, (((0 : Int)), x1.2.2.2.2.2))))), (x2, (x3, x4))))))
 else Option.bind (
 bif decide (48 ≤ x0) then
 kk x3 (kk x4 (some (Sum.inl ((x0, (decide (x0 < 58))), (x1, (x2, (x3, x4)))))))
 else kk x3 (kk x4 (some (Sum.inl ((x0, false), (x1, (x2, (x3, x4)))))))) fun (x5 : (((Int × Bool) × Y6_) ⊕ (Bool × Y6_))) =>
 match x5 with
   | Sum.inl x6 =>
    bif x6.1.2 then
    kk x6.2.2.2.2 (bif (↑x6.2.2.2.2.length : Int) == 0 then
    kk x6.2.2.2.1 (kk x6.2.2.2.2 ((jI x6.2.1 x6.2.2.1 x6.2.2.2.1 x6.2.2.2.2).bind fun x7 =>
    kk x7.2.2.2 (bif decide ((0 : Int) ≤ IntKind.i64.wrap ((↑x7.2.2.2.length : Int) - (1 : Int))) then
    bif decide ((IntKind.i64.wrap ((↑x7.2.2.2.length : Int) - (1 : Int))).toNat < x7.2.2.2.length ∧ x7.2.2.2.length = x7.2.2.2.length) then
    kk x7.2.2.2 (kk x7.2.2.2 ((x7.2.2.2[(IntKind.i64.wrap ((↑x7.2.2.2.length : Int) - (1 : Int))).toNat]?).bind fun x8 =>
    kk x7.2.2.2 (kk x7.2.2.2 ((x7.2.2.2[(IntKind.i64.wrap ((↑x7.2.2.2.length : Int) - (1 : Int))).toNat]?).bind fun x9 =>
    kk x7.2.2.1 (bif decide (x7.2.2.2.length = (x7.2.2.2.set (IntKind.i64.wrap ((↑x7.2.2.2.length : Int) - (1 : Int))).toNat (if (9999 : Int) < IntKind.i64.wrap (IntKind.i64.wrap ((10 : Int) * if (0 : Int) > x8 then (0 : Int) else x8) + IntKind.i64.wrap (IntKind.u8.wrap (x6.1.1 - (48 : Int)))) then (9999 : Int) else IntKind.i64.wrap (IntKind.i64.wrap ((10 : Int) * if (0 : Int) > x8 then (0 : Int) else x8) + IntKind.i64.wrap (IntKind.u8.wrap (x6.1.1 - (48 : Int)))))).length) then
    some (false, (x7.1, (x7.2.1, (x7.2.2.1, (x7.2.2.2.set (IntKind.i64.wrap ((↑x7.2.2.2.length : Int) - (1 : Int))).toNat (if (9999 : Int) < IntKind.i64.wrap (IntKind.i64.wrap ((10 : Int) * if (0 : Int) > x8 then (0 : Int) else x8) + IntKind.i64.wrap (IntKind.u8.wrap (x6.1.1 - (48 : Int)))) then (9999 : Int) else IntKind.i64.wrap (IntKind.i64.wrap ((10 : Int) * if (0 : Int) > x8 then (0 : Int) else x8) + IntKind.i64.wrap (IntKind.u8.wrap (x6.1.1 - (48 : Int))))))))))
    else none)))))
    else none
    else none)))
    else kk x6.2.2.2.2 (bif decide ((0 : Int) ≤ IntKind.i64.wrap ((↑x6.2.2.2.2.length : Int) - (1 : Int))) then
    bif decide ((IntKind.i64.wrap ((↑x6.2.2.2.2.length : Int) - (1 : Int))).toNat < x6.2.2.2.2.length ∧ x6.2.2.2.2.length = x6.2.2.2.2.length) then
    kk x6.2.2.2.2 (kk x6.2.2.2.2 ((x6.2.2.2.2[(IntKind.i64.wrap ((↑x6.2.2.2.2.length : Int) - (1 : Int))).toNat]?).bind fun x7 =>
    kk x6.2.2.2.2 (kk x6.2.2.2.2 ((x6.2.2.2.2[(IntKind.i64.wrap ((↑x6.2.2.2.2.length : Int) - (1 : Int))).toNat]?).bind fun x8 =>
    kk x6.2.2.2.1 (bif decide (x6.2.2.2.2.length = (x6.2.2.2.2.set (IntKind.i64.wrap ((↑x6.2.2.2.2.length : Int) - (1 : Int))).toNat (if (9999 : Int) < IntKind.i64.wrap (IntKind.i64.wrap ((10 : Int) * if (0 : Int) > x7 then (0 : Int) else x7) + IntKind.i64.wrap (IntKind.u8.wrap (x6.1.1 - (48 : Int)))) then (9999 : Int) else IntKind.i64.wrap (IntKind.i64.wrap ((10 : Int) * if (0 : Int) > x7 then (0 : Int) else x7) + IntKind.i64.wrap (IntKind.u8.wrap (x6.1.1 - (48 : Int)))))).length) then
    some (false, (x6.2.1, (x6.2.2.1, (x6.2.2.2.1, (x6.2.2.2.2.set (IntKind.i64.wrap ((↑x6.2.2.2.2.length : Int) - (1 : Int))).toNat (if (9999 : Int) < IntKind.i64.wrap (IntKind.i64.wrap ((10 : Int) * if (0 : Int) > x7 then (0 : Int) else x7) + IntKind.i64.wrap (IntKind.u8.wrap (x6.1.1 - (48 : Int)))) then (9999 : Int) else IntKind.i64.wrap (IntKind.i64.wrap ((10 : Int) * if (0 : Int) > x7 then (0 : Int) else x7) + IntKind.i64.wrap (IntKind.u8.wrap (x6.1.1 - (48 : Int))))))))))
    else none)))))
    else none
    else none))
    else bif x6.1.1 == 59 then
    kk x6.2.2.2.2 (bif (↑x6.2.2.2.2.length : Int) == 0 then
    kk x6.2.2.2.1 (kk x6.2.2.2.2 ((jI x6.2.1 x6.2.2.1 x6.2.2.2.1 x6.2.2.2.2).bind fun x7 =>
    kk x7.2.2.1 (kk x7.2.2.2 ((jI x7.1 x7.2.1 x7.2.2.1 x7.2.2.2).bind fun x8 =>
    kk x8.2.2.1 (kk x8.2.2.2 (some (false, x8)))))))
    else kk x6.2.2.2.1 (kk x6.2.2.2.2 ((jI x6.2.1 x6.2.2.1 x6.2.2.2.1 x6.2.2.2.2).bind fun x7 =>
    kk x7.2.2.1 (kk x7.2.2.2 (some (false, x7))))))
    else kk x6.2.2.2.1 (kk x6.2.2.2.2 (some (false, ((x6.2.1.1, (x6.2.1.2.1, (x6.2.1.2.2.1, (x6.2.1.2.2.2.1, (((4 : Int)), x6.2.1.2.2.2.2.2))))), x6.2.2))))
   | Sum.inr x6 =>
    some x6
def U8 : TEnt := ⟨118, .cons (.ptr 0 1) (.int .u8), Y0_, [(.bool, Y0_)], fun s => JI s.1 s.2.1 s.2.2.1 s.2.2.2.1 s.2.2.2.2⟩
theorem YO : qK Try.prog U8 := kT (loops := []) (joins := [(4747, [0, 1, 15], (.cons (.ptr 0 1) (.cons (.int .u8) .bool)), Y0_)]) (un := []) _ (tc YF tn) (fun s => by kernel_rfl) (by kernel_rfl)
def ko (x0 : (List Y9_)) (x1 : (List Y9_)) : Option (List Y9_) :=
 bif decide (x1.length = x1.length ∧ x1.length + List.length x0 ≤ (3518437208883 : Nat)) then
 bif decide (x1.length + List.length x0 = (x1 ++ x0).length) then
 some (x1 ++ x0)
 else none
 else none
def a2l : TEnt := ⟨114, .cons (.sl a12) (.ptr 0 0), [.st (.own 1), .li a12 92 false], [(.tup .nil, [.st (.own 1), .li a12 92 false])], fun s => ko s.1 s.2⟩
theorem Vo : qK Try.prog a2l := eo0 _ tn (fun s => by kernel_rfl) (by kernel_rfl)
def zh (x5 : YR) (x6 : Y3_) (x7 : Y4_) (x8 : (List Y1_)) (x9 : (List Int)) (x10 : (List Y9_)) : Option ((YR × a9U) ⊕ ((List Y9_) × Y6_)) :=
 bif decide (x5.2.2 < x5.2.1) then
 bif decide (0 ≤ x5.2.2) then
 (x5.1[x5.2.2.toNat]?).bind fun x11 =>
 Option.bind (
 bif decide (x11 < 32) then
 kk x10 (kk x8 (kk x9 (some (Sum.inl ((x11, (x5.1, (x5.2.1, (x5.2.2, true)))), (x6, (x7, (x8, (x9, x10)))))))))
 else kk x10 (kk x8 (kk x9 (some (Sum.inl ((x11, (x5.1, (x5.2.1, (x5.2.2, (x11 == 127))))), (x6, (x7, (x8, (x9, x10)))))))))) fun (x12 : (((Int × ((List Int) × a70)) × a9U) ⊕ ((YR × a9U) ⊕ ((List Y9_) × Y6_)))) =>
 match x12 with
     | Sum.inl x13 =>
      bif x13.1.2.2.2.2 then
      kk x13.2.2.2.1 (kk x13.2.2.2.2.1 ((vC x13.2.1 x13.2.2.1 x13.2.2.2.1 x13.2.2.2.2.1).bind fun x14 =>
      (km x14.1).bind fun x15 =>
      kk x13.2.2.2.2.2 ((ko x15 x13.2.2.2.2.2).bind fun x16 =>
      bif x13.1.1 == 27 then
      kk x16 (kk x14.2.2.2.1 (some (Sum.inl ((x13.1.2.1, (x13.1.2.2.1, (IntKind.i64.wrap (x13.1.2.2.2.1 + (1 : Int))))), ((x14.2.1.1, (x14.2.1.2.1, (x14.2.1.2.2.1, (x14.2.1.2.2.2.1, (((1 : Int)), x14.2.1.2.2.2.2.2))))), (x14.2.2.1, (x14.2.2.2.1, ([], x16))))))))
      else bif decide ((1 : Nat) = (1 : Nat)) then
      kk x16 ((ko [((2 : Int), IntKind.i32.wrap x13.1.1, [])] x16).bind fun x17 =>
      bif x13.1.1 == 24 then
      kk x17 (kk x14.2.2.2.1 (kk x14.2.2.2.2 (some (Sum.inl ((x13.1.2.1, (x13.1.2.2.1, (IntKind.i64.wrap (x13.1.2.2.2.1 + (1 : Int))))), ((x14.2.1.1, (x14.2.1.2.1, (x14.2.1.2.2.1, (x14.2.1.2.2.2.1, (((0 : Int)), x14.2.1.2.2.2.2.2))))), (x14.2.2.1, (x14.2.2.2.1, (x14.2.2.2.2, x17)))))))))
      else bif x13.1.1 == 26 then
      kk x17 (kk x14.2.2.2.1 (kk x14.2.2.2.2 (some (Sum.inl ((x13.1.2.1, (x13.1.2.2.1, (IntKind.i64.wrap (x13.1.2.2.2.1 + (1 : Int))))), ((x14.2.1.1, (x14.2.1.2.1, (x14.2.1.2.2.1, (x14.2.1.2.2.2.1, (((0 : Int)), x14.2.1.2.2.2.2.2))))), (x14.2.2.1, (x14.2.2.2.1, (x14.2.2.2.2, x17)))))))))
      else kk x17 (kk x14.2.2.2.1 (kk x14.2.2.2.2 (some (Sum.inl ((x13.1.2.1, (x13.1.2.2.1, (IntKind.i64.wrap (x13.1.2.2.2.1 + (1 : Int))))), (x14.2.1, (x14.2.2.1, (x14.2.2.2.1, (x14.2.2.2.2, x17))))))))))
      else none)))
      else bif decide (128 ≤ x13.1.1) then
      bif decide ((1 : Nat) = (1 : Nat)) then
      kk x13.2.2.2.1 (kk x13.2.2.2.2.1 ((Q7 [x13.1.1] (x13.2.1.1, x13.2.1.2.1, x13.2.1.2.2.1, x13.2.1.2.2.2.1, (0 : Int), x13.2.1.2.2.2.2.2.1, x13.2.1.2.2.2.2.2.2.1, x13.2.1.2.2.2.2.2.2.2.1, x13.2.1.2.2.2.2.2.2.2.2) x13.2.2.1 x13.2.2.2.1 x13.2.2.2.2.1).bind fun x14 =>
      (km x14.1).bind fun x15 =>
      kk x13.2.2.2.2.2 ((ko x15 x13.2.2.2.2.2).bind fun x16 =>
      kk x16 (kk x14.2.2.2.1 (kk x14.2.2.2.2 (some (Sum.inl ((x13.1.2.1, (x13.1.2.2.1, (IntKind.i64.wrap (x13.1.2.2.2.1 + (1 : Int))))), (x14.2.1, (x14.2.2.1, (x14.2.2.2.1, (x14.2.2.2.2, x16))))))))))))
      else none
      else bif x13.2.1.2.2.2.2.1 == 0 then
      bif decide ((1 : Nat) = (1 : Nat)) then
      kk x13.2.2.2.1 (kk x13.2.2.2.2.1 ((Q7 [x13.1.1] (x13.2.1.1, x13.2.1.2.1, x13.2.1.2.2.1, x13.2.1.2.2.2.1, (0 : Int), x13.2.1.2.2.2.2.2.1, x13.2.1.2.2.2.2.2.2.1, x13.2.1.2.2.2.2.2.2.2.1, x13.2.1.2.2.2.2.2.2.2.2) x13.2.2.1 x13.2.2.2.1 x13.2.2.2.2.1).bind fun x14 =>
      (km x14.1).bind fun x15 =>
      kk x13.2.2.2.2.2 ((ko x15 x13.2.2.2.2.2).bind fun x16 =>
      kk x16 (kk x14.2.2.2.1 (kk x14.2.2.2.2 (some (Sum.inl ((x13.1.2.1, (x13.1.2.2.1, (IntKind.i64.wrap (x13.1.2.2.2.1 + (1 : Int))))), (x14.2.1, (x14.2.2.1, (x14.2.2.2.1, (x14.2.2.2.2, x16))))))))))))
      else none
      else Option.bind (
      bif x13.2.1.2.2.2.2.1 == 1 then
      kk x13.2.2.2.2.2 (kk x13.2.2.2.1 (kk x13.2.2.2.2.1 (some (Sum.inl ((x13.1.1, ((decide (x13.1.1 < 48)), (x13.1.2.1, (x13.1.2.2.1, (x13.1.2.2.2.1, (x13.2.1.2.2.2.2.1, true)))))), x13.2)))))
      else kk x13.2.2.2.2.2 (kk x13.2.2.2.1 (kk x13.2.2.2.2.1 (some (Sum.inl ((x13.1.1, ((decide (x13.1.1 < 48)), (x13.1.2.1, (x13.1.2.2.1, (x13.1.2.2.2.1, (x13.2.1.2.2.2.2.1, (x13.2.1.2.2.2.2.1 == 2))))))), x13.2)))))) fun (x14 : (((Int × (Bool × ((List Int) × (Int × a70)))) × a9U) ⊕ ((YR × a9U) ⊕ ((List Y9_) × Y6_)))) =>
      match x14 with
           | Sum.inl x15 =>
            bif x15.1.2.2.2.2.2.2 then
            bif x15.2.1.2.2.2.2.1 == 1 then
            bif x15.1.1 == 91 then
            kk x15.2.2.2.2.2 (kk x15.2.2.2.1 (kk x15.2.2.2.2.1 (some (Sum.inl ((x15.1.2.2.1, (x15.1.2.2.2.1, (IntKind.i64.wrap (x15.1.2.2.2.2.1 + (1 : Int))))), ((x15.2.1.1, (x15.2.1.2.1, (x15.2.1.2.2.1, (x15.2.1.2.2.2.1, (((3 : Int)), x15.2.1.2.2.2.2.2))))), x15.2.2))))))
            else bif x15.1.2.1 then
            kk x15.2.2.2.2.2 (kk x15.2.2.2.1 (kk x15.2.2.2.2.1 (some (Sum.inl ((x15.1.2.2.1, (x15.1.2.2.2.1, (IntKind.i64.wrap (x15.1.2.2.2.2.1 + (1 : Int))))), ((x15.2.1.1, (x15.2.1.2.1, (x15.2.1.2.2.1, (x15.2.1.2.2.2.1, (((2 : Int)), x15.2.1.2.2.2.2.2))))), x15.2.2))))))
            else kk x15.2.2.2.2.2 (kk x15.2.2.2.1 (kk x15.2.2.2.2.1 (some (Sum.inl ((x15.1.2.2.1, (x15.1.2.2.2.1, (IntKind.i64.wrap (x15.1.2.2.2.2.1 + (1 : Int))))), ((x15.2.1.1, (x15.2.1.2.1, (x15.2.1.2.2.1, (x15.2.1.2.2.2.1, (((0 : Int)), x15.2.1.2.2.2.2.2))))), x15.2.2))))))
            else bif x15.1.2.1 then
            kk x15.2.2.2.2.2 (kk x15.2.2.2.1 (kk x15.2.2.2.2.1 (some (Sum.inl ((x15.1.2.2.1, (x15.1.2.2.2.1, (IntKind.i64.wrap (x15.1.2.2.2.2.1 + (1 : Int))))), ((x15.2.1.1, (x15.2.1.2.1, (x15.2.1.2.2.1, (x15.2.1.2.2.2.1, (((2 : Int)), x15.2.1.2.2.2.2.2))))), x15.2.2))))))
            else kk x15.2.2.2.2.2 (kk x15.2.2.2.1 (kk x15.2.2.2.2.1 (some (Sum.inl ((x15.1.2.2.1, (x15.1.2.2.2.1, (IntKind.i64.wrap (x15.1.2.2.2.2.1 + (1 : Int))))), ((x15.2.1.1, (x15.2.1.2.1, (x15.2.1.2.2.1, (x15.2.1.2.2.2.1, (((0 : Int)), x15.2.1.2.2.2.2.2))))), x15.2.2))))))
            else bif x15.1.2.2.2.2.2.1 == 3 then
            kk x15.2.2.2.1 (kk x15.2.2.2.2.1 ((JI x15.1.1 x15.2.1 x15.2.2.1 x15.2.2.2.1 x15.2.2.2.2.1).bind fun x16 =>
            bif x16.1 then
            kk x16.2.2.2.2 (bif decide ((0 : Nat) < x16.2.2.2.2.length ∧ x16.2.2.2.2.length = x16.2.2.2.2.length) then
            bif decide (((0 : Int) ≤ if 8 < (↑x16.2.2.2.2.length : Int) then (8 : Int) else (↑x16.2.2.2.2.length : Int)) ∧ (if 8 < (↑x16.2.2.2.2.length : Int) then (8 : Int) else (↑x16.2.2.2.2.length : Int)).toNat ≤ x16.2.2.2.2.length) then
            kk x16.2.2.2.2 ((wc (List.take (if 8 < (↑x16.2.2.2.2.length : Int) then (8 : Int) else (↑x16.2.2.2.2.length : Int)).toNat (List.drop (0 : Nat) x16.2.2.2.2))).bind fun x17 =>
            kk x17 (bif decide ((1 : Nat) = (1 : Nat)) then
            kk x15.2.2.2.2.2 ((ko [((3 : Int), IntKind.i32.wrap x15.1.1, x17)] x15.2.2.2.2.2).bind fun x18 =>
            none)
            else none))
            else none
            else none)
            else kk x15.2.2.2.2.2 (kk x16.2.2.2.1 (kk x16.2.2.2.2 (some (Sum.inl ((x15.1.2.2.1, (x15.1.2.2.2.1, (IntKind.i64.wrap (x15.1.2.2.2.2.1 + (1 : Int))))), (x16.2.1, (x16.2.2.1, (x16.2.2.2.1, (x16.2.2.2.2, x15.2.2.2.2.2)))))))))))
            else bif x15.1.2.2.2.2.2.1 == 4 then
            bif decide (64 ≤ x15.1.1) then
            kk x15.2.2.2.2.2 (kk x15.2.2.2.1 (kk x15.2.2.2.2.1 (some (Sum.inl ((x15.1.2.2.1, (x15.1.2.2.2.1, (IntKind.i64.wrap (x15.1.2.2.2.2.1 + (1 : Int))))), ((x15.2.1.1, (x15.2.1.2.1, (x15.2.1.2.2.1, (x15.2.1.2.2.2.1, (((0 : Int)), x15.2.1.2.2.2.2.2))))), x15.2.2))))))
            else kk x15.2.2.2.2.2 (kk x15.2.2.2.1 (kk x15.2.2.2.2.1 (some (Sum.inl ((x15.1.2.2.1, (x15.1.2.2.2.1, (IntKind.i64.wrap (x15.1.2.2.2.2.1 + (1 : Int))))), x15.2)))))
            else kk x15.2.2.2.2.2 (kk x15.2.2.2.1 (kk x15.2.2.2.2.1 (some (Sum.inl ((x15.1.2.2.1, (x15.1.2.2.2.1, (IntKind.i64.wrap (x15.1.2.2.2.2.1 + (1 : Int))))), x15.2)))))
           | Sum.inr x15 =>
            some x15
     | Sum.inr x13 =>
      some x13
 else none
 else kk x8 (kk x9 (kk x10 (some (Sum.inr (x10, (x6, (x7, (x8, x9))))))))
def K3 : (YR × a9U) → Option ((List Y9_) × Y6_) := zO fun s => zh s.1 s.2.1 s.2.2.1 s.2.2.2.1 s.2.2.2.2.1 s.2.2.2.2.2
def yw (x0 : (List Int)) (x1 : Y3_) (x2 : Y4_) (x3 : (List Y1_)) (x4 : (List Int)) : Option ((List Y9_) × Y6_) :=
 kk x3 (kk x4 ((K3 ((x0, (((↑(List.length x0) : Int)), ((0 : Int)))), (x1, (x2, (x3, (x4, [])))))).bind fun x5 =>
 some x5))
def a0u : TEnt := ⟨71, .cons (.ptr 0 1) (.sl (.int .u8)), Y0_, [(.sl a12, Y0_)], fun s => yw s.1 s.2.1 s.2.2.1 s.2.2.2.1 s.2.2.2.2⟩
theorem Vv : qK Try.prog a0u := kT (loops := [(155488842, [0, 5, 6, 13, 14, 15], (.cons (.ptr 0 1) (.cons (.ptr 4 0) (.cons (.fn 114 .nil (.ptr 4 0)) (.cons (.sl (.int .u8)) JF)))), ahl)]) (joins := [(40760467067530, [0, 5, 6, 8, 13, 14, 15, 19], (.cons (.ptr 0 1) (.cons (.ptr 4 0) (.cons (.fn 114 .nil (.ptr 4 0)) (.cons (.int .u8) (.cons (.sl (.int .u8)) (.cons (.int .i64) (.cons (.int .i64) .bool))))))), ahl), (166954873108599377, [0, 5, 6, 8, 9, 13, 14, 15, 83, 84], (.cons (.ptr 0 1) (.cons (.ptr 4 0) (.cons (.fn 114 .nil (.ptr 4 0)) (.cons (.int .u8) (.cons .bool (.cons (.sl (.int .u8)) (.cons (.int .i64) (.cons (.int .i64) (.cons (.int .i64) .bool))))))))), ahl)]) (un := []) _ (tc ZW (tc Uv (tc Xb (tc W9 (tc YO (tc Vo tn)))))) (fun s => by kernel_rfl) (by kernel_rfl)
open Go.Proofs
def Zp (x0 : (List Int)) (x1 : Y3_) (x2 : Y4_) (x3 : (List Y1_)) (x4 : (List Int)) : Option Y6_ :=
 kk x3 (kk x4 ((yw x0 x1 x2 x3 x4).bind fun x5 =>
 kk x5.2.2.2.1 (kk x5.2.2.2.2 ((yT x5.1 x5.2.1 x5.2.2.1 x5.2.2.2.1 x5.2.2.2.2).bind fun x6 =>
 kk x6.2.2.1 (kk x6.2.2.2 (some x6))))))
def a7g : TEnt := ⟨37, .cons (.ptr 0 0) (.sl (.int .u8)), Y0_, [(.tup .nil, Y0_)], fun s => Zp s.1 s.2.1 s.2.2.1 s.2.2.2.1 s.2.2.2.2⟩
theorem uS : qK Try.prog a7g := eo0 _ (tc V0 (tc Vv tn)) (fun s => by kernel_rfl) (by kernel_rfl)
set_option maxHeartbeats 4000000
theorem UX {b : Int} (h : jb b) : IntKind.i32.wrap b = b := by
 obtain ⟨h1, h2⟩ := h
 exact uf (by omega) (by omega)
theorem a0F {b : Int} (h : jb b) : QB [b] = some (b, 1, false) := by
 have hw := UX h
 obtain ⟨h1, h2⟩ := h
 have e0 : ([b] : List Int)[(0 : Nat)]? = some b := rfl
 unfold QB Wv
 simp (disch := omega) only [q8, qn, qt, qY, qg, qk, qw, e0, hw]
theorem a49 (a : List Int) (b : EmT) (c : Int × (Int × Int)) (d : List Int) (e : qx) (f : List Int) : jK (a, b, c, d, e, f) = unr (kW a b c d e f) jK := J9 _ _
theorem a8E {b : Int} (h : jb b) (h0 h1 h2 st p1 p2 p3 : Int) (w : Bool) (g : Int × (Int × Int)) (L : qx) (ns : List Int) :
  Q7 [b] (h0, h1, h2, 0, st, p1, p2, p3, w) g L ns = some ([b], (h0, h1, h2, 0, st, p1, p2, p3, w), g, L, ns) := by
 have hp := a0F h
 have main : jK ([b], (h0, h1, h2, 0, st, p1, p2, p3, w), g, ns, L, []) = some ([b], (h0, h1, h2, 0, st, p1, p2, p3, w), g, L, ns) := by
  have h2 : jK ([], (h0, h1, h2, 0, st, p1, p2, p3, w), g, ns, L, [b]) = some ([b], (h0, h1, h2, 0, st, p1, p2, p3, w), g, L, ns) := by
   rw [a49]
   unfold kW
   simp (disch := omega) only [q8, qn, qt, qg, qk, jf, y7, zQ, qm, jg, true_and]
  have ed : List.drop 1 ([b] : List Int) = [] := rfl
  have e1 : (1 : Int).toNat = 1 := rfl
  rw [a49]
  unfold kW
  simp (disch := omega) only [q8, qn, qt, qg, qk, qw, y7, zQ, qm, zE, true_and, hp, e1, ed, List.nil_append, h2]
 unfold Q7 KN
 simp (disch := omega) only [q8, qn, qt, qg, qk, qw, jf, y7, zQ, qm, true_and, Option.getD_some, List.nil_append, main]
theorem uh (a : List Int × (Int × Int)) (b : List EvT) : ke (a, b) = unr (zP a b) ke := J9 _ _
theorem abf (b : Int) : km [b] = some [(1, b, [])] := by
 have e0 : ([b] : List Int)[(0 : Nat)]? = some b := rfl
 have z0 : (0 : Int).toNat = 0 := rfl
 have h2 : ke (([b], ((1 : Int), (1 : Int))), [(1, b, [])]) = some [(1, b, [])] := by
  rw [uh]
  unfold zP
  simp (disch := omega) only [q8, qn, qt, qc, qg, qk, jf, y7, zQ, qm, jg, true_and]
 have z1 : ((1 : Nat) : Int) = 1 := rfl
 have e2 : (0 : Int) + 1 = 1 := rfl
 unfold km
 have main : ke (([b], ((1 : Int), (0 : Int))), []) = some [(1, b, [])] := by
  rw [uh]
  unfold zP
  simp (disch := omega) only [q8, qn, qc, qg, qw, y7, zQ, qm, zE, true_and, z0, e0, e2, List.nil_append, h2]
 simp (disch := omega) only [q8, qw, y7, zQ, z1, main]
theorem a1J {l : List Int} (hl : ∀ b ∈ l, jb b) (hn : l.length ≤ 1000) (h0 h1 h2 p1 p2 p3 : Int) (w : Bool) (g : Int × (Int × Int)) (L : qx) (ns : List Int) :
  yw l (h0, h1, h2, 0, 0, p1, p2, p3, w) g L ns = some (l.map fun b => ((1, b, []) : EvT), (h0, h1, h2, 0, 0, p1, p2, p3, w), g, L, ns) := by
 have main : K3 ((l, ((l.length : Int), (0 : Int))), ((h0, h1, h2, 0, 0, p1, p2, p3, w), (g, (L, (ns, []))))) = some (l.map fun b => ((1, b, []) : EvT), (h0, h1, h2, 0, 0, p1, p2, p3, w), g, L, ns) := by
  refine jd (step := fun s => zh s.1 s.2.1 s.2.2.1 s.2.2.2.1 s.2.2.2.2.1 s.2.2.2.2.2) (st := fun i => ((l, ((l.length : Int), ((i : Nat) : Int))), ((h0, h1, h2, 0, 0, p1, p2, p3, w), (g, (L, (ns, (l.map fun b => ((1, b, []) : EvT)).take i)))))) (n := l.length) (fun i hi => ?_) ?_ 0 (by omega)
  ·show zh _ _ _ _ _ _ = _
   obtain ⟨b, hb⟩ := qS hi
   have hB := hl b (List.mem_of_getElem? hb)
   have e : ((i : Int) + 1) = ((i + 1 : Nat) : Int) := by omega
   have hm : (l.map fun b => ((1, b, []) : EvT))[i]? = some (1, b, []) := by rw [List.getElem?_map, hb]; rfl
   have a1 := a8E hB h0 h1 h2 0 p1 p2 p3 w g L ns
   have a2 := abf b
   have hle : ((l.map fun b => ((1, b, []) : EvT)).take i).length ≤ 1000 := by rw [List.length_take, List.length_map]; omega
   obtain ⟨b1, b2⟩ := hB
   rw [yE hm]
   unfold zh
   generalize (l.map fun b => ((1, b, []) : EvT)).take i = A at *
   have a3 : ko [(1, b, [])] A = some (A ++ [(1, b, [])]) := by
    unfold ko
    simp (disch := omega) only [q8, qn, qg, jf, y7, zQ, qm, true_and]
   simp (disch := omega) only [q8, qn, qt, zL, qY, qc, uf, qg, qk, qw, ze, qm, and_true, hb, a1, a2, a3, e]
  ·show zh _ _ _ _ _ _ = _
   have ee : (l.map fun b => ((1, b, []) : EvT)).take l.length = l.map fun b => ((1, b, []) : EvT) := List.take_of_length_le (by simp)
   unfold zh
   rw [ee]
   simp (disch := omega) only [q8, qn, qt, qg, qk, ze, Qg, qm, and_true]
 unfold yw
 simp (disch := omega) only [q8, qg, qw, qm, main]
theorem a0N {L : qx} {cols n m : Nat} {l : List qf} {d : qf} (h1 : L[n]? = some l) (h2 : l[m]? = some d) (h3 : m < cols) : atP L cols (n : Int) (m : Int) = (d, true) := by
 have := (List.getElem?_eq_some_iff.1 h1).1
 unfold atP
 rw [if_pos ⟨by omega, by omega, by omega, by omega⟩, Int.toNat_natCast, Int.toNat_natCast]
 simp only [q8, h1, qw, h2]
theorem Wf {rows cols row : Nat} {l : List Int} {p : Int × (Int × Int)} (hl : ∀ b ∈ l, jb b) (hp : PenOk p) (hr : row < rows) (hc : l.length < cols) : ∀ k, k ≤ l.length →
  doL cols (zd rows cols row l p 0, row, 0, p, false) ((l.take k).map fun b => ((1, b, []) : EvT)) = (zd rows cols row l p k, row, k, p, false)
 | 0, _ => rfl
 | k + 1, h => by
  obtain ⟨b, hb⟩ := qS (l := l) (i := k) (by omega)
  have ih := Wf hl hp hr hc k (by omega)
  rw [yE hb, List.map_append]
  unfold doL at ih ⊢
  rw [List.foldl_append, ih]
  have ht := a0R hl hp hr hb (cols := cols) (by omega)
  show doQ (zd rows cols row l p k) cols row k p false 1 b [] = _
  unfold doQ
  rw [if_pos rfl, ht]
theorem Vp {rows cols row : Nat} {l : List Int} {p : Int × (Int × Int)} (hl : ∀ b ∈ l, jb b) (hp : PenOk p) (hr : row < rows) (hc : l.length < cols) (hn : l.length ≤ 1000) (h512 : cols ≤ 512) (hok : EmOk rows cols (zd rows cols row l p 0, row, 0, p, false)) (h0 h1 h2 : Int) (ns : List Int) :
  Zp l (h0, h1, h2, 0, 0, p.1, p.2.1, p.2.2, false) ((row : Int), (0 : Int), (cols : Int)) (zd rows cols row l p 0) ns =
   some ((h0, h1, h2, 0, 0, p.1, p.2.1, p.2.2, false), ((row : Int), (l.length : Int), (cols : Int)), zd rows cols row l p l.length, ns) := by
 have a1 := a1J hl hn h0 h1 h2 p.1 p.2.1 p.2.2 false ((row : Int), (0 : Int), (cols : Int)) (zd rows cols row l p 0) ns
 have hev : ∀ x ∈ (l.map fun b => ((1, b, []) : EvT)), EvOk x := by
  intro x hx
  obtain ⟨b, hb, rfl⟩ := List.mem_map.1 hx
  obtain ⟨b1, b2⟩ := hl b hb
  exact ⟨⟨by show -2147483648 ≤ b; omega, by show b < 2147483648; omega⟩, by show 0 ≤ 1000; omega, fun v hv => by simp at hv⟩
 have a2 := a92 hok hev (by rw [List.length_map]; omega) h0 h1 h2 0 0 ns
 have hd := Wf hl hp hr hc l.length (Nat.le_refl _)
 rw [List.take_length] at hd
 rw [hd] at a2
 have a2' : yT (l.map fun b => ((1, b, []) : EvT)) (h0, h1, h2, 0, 0, p.1, p.2.1, p.2.2, false) ((row : Int), (0 : Int), (cols : Int)) (zd rows cols row l p 0) ns = some ((h0, h1, h2, 0, 0, p.1, p.2.1, p.2.2, false), ((row : Int), (l.length : Int), (cols : Int)), zd rows cols row l p l.length, ns) := a2
 unfold Zp
 simp (disch := omega) only [q8, qg, qw, qm, a1, a2']
theorem a5Q {rows cols row : Nat} {l : List Int} {p : Int × (Int × Int)} (hr : row < rows) (hc : l.length < cols) (h512 : cols ≤ 512) {r c : Nat} (h1 : r < rows) (h2 : c < cols) :
  atP (zd rows cols row l p l.length) cols (r : Int) (c : Int) = (if r = row ∧ c < l.length then wu (l[c]?.getD 0) p else zi 0 0 0, true) := by
 have hlen : (zd rows cols row l p l.length).length = rows := by unfold zd; rw [List.length_set, List.length_replicate]
 by_cases h : r = row
 ·subst h
  have hget : (zd rows cols r l p l.length)[r]? = some (K7 l p cols l.length) := by
   unfold zd
   rw [List.getElem?_set_self (by rw [List.length_replicate]; exact hr)]
  by_cases h3 : c < l.length
  ·obtain ⟨b, hb⟩ := qS h3
   have hx : (K7 l p cols l.length)[c]? = some (wu b p) := by
    unfold K7
    rw [List.getElem?_append_left (by simp only [q8, Qg, List.length_take]; omega), List.take_length, List.getElem?_map, hb]
    rfl
   have := a0N hget hx (cols := cols) (by omega)
   rw [this, if_pos ⟨rfl, h3⟩, hb]
   rfl
  ·have hx : (K7 l p cols l.length)[c]? = some (zi 0 0 0) := by
    unfold K7
    rw [List.getElem?_append_right (by simp only [q8, Qg, List.length_take]; omega), List.getElem?_replicate, if_pos (by simp only [q8, Qg, List.length_take]; omega)]
   have := a0N hget hx (cols := cols) (by omega)
   rw [this, if_neg (by omega)]
 ·have hget : (zd rows cols row l p l.length)[r]? = some (jO (cols : Int)) := by
   unfold zd
   rw [List.getElem?_set_ne (by omega), List.getElem?_replicate, if_pos h1]
  have hx : (jO (cols : Int))[c]? = some (zi 0 0 0) := by
   unfold jO Yw
   rw [if_neg (by omega), if_neg (by omega), Int.toNat_natCast, List.getElem?_replicate, if_pos h2]
  have := a0N hget hx (cols := cols) (by omega)
  rw [this, if_neg (fun q => h q.1)]
set_option maxHeartbeats 0
open Go.Proofs
def zx (x32 : (Int × (Int × (Int × YR)))) (x33 : Y3_) (x34 : Y4_) (x35 : Y4_) (x36 : Y4_) (x37 : (List Int)) (x38 : (List Y1_)) (x39 : (List Y1_)) : Option (aii ⊕ (aeS ⊕ Bool)) :=
 bif decide (x32.2.2.2.2.2 < x32.2.1) then
 kk x38 ((wG x32.2.2.2.2 x35 x38).bind fun x40 =>
 (kQ (0 : Int) (0 : Int) (0 : Int)).bind fun x41 =>
 bif x32.2.2.2.2.1 == x32.2.2.1 then
 bif decide (x32.2.2.2.2.2 < (↑x32.2.2.2.1.length : Int)) then
 bif decide (0 ≤ x32.2.2.2.2.2) then
 (x32.2.2.2.1[x32.2.2.2.2.2.toNat]?).bind fun x42 =>
 bif !(x40.1.1.1 == IntKind.i32.wrap x42 && (x40.1.1.2.1 == 0 && (x40.1.1.2.2.1 == 0 && true) && (x40.1.1.2.2.2.1 == 1 && (x40.1.1.2.2.2.2.1 == x34.1 && (x40.1.1.2.2.2.2.2.1 == x34.2.1 && (x40.1.1.2.2.2.2.2.2 == x34.2.2 && true)) && true)))) then
 some (Sum.inr (Sum.inr false))
 else kk x39 (kk x40.2.2 (kk x37 (some (Sum.inl ((x32.1, (x32.2.1, (x32.2.2.1, (x32.2.2.2.1, (x32.2.2.2.2.1, (IntKind.i64.wrap (x32.2.2.2.2.2 + (1 : Int)))))))), (x33, (x34, (x40.2.1, (x36, (x37, (x40.2.2, x39)))))))))))
 else none
 else bif !(x40.1.1.1 == x41.1 && (x40.1.1.2.1 == x41.2.1 && (x40.1.1.2.2.1 == x41.2.2.1 && true) && (x40.1.1.2.2.2.1 == x41.2.2.2.1 && (x40.1.1.2.2.2.2.1 == x41.2.2.2.2.1 && (x40.1.1.2.2.2.2.2.1 == x41.2.2.2.2.2.1 && (x40.1.1.2.2.2.2.2.2 == x41.2.2.2.2.2.2 && true)) && true)))) then
 some (Sum.inr (Sum.inr false))
 else kk x39 (kk x40.2.2 (kk x37 (some (Sum.inl ((x32.1, (x32.2.1, (x32.2.2.1, (x32.2.2.2.1, (x32.2.2.2.2.1, (IntKind.i64.wrap (x32.2.2.2.2.2 + (1 : Int)))))))), (x33, (x34, (x40.2.1, (x36, (x37, (x40.2.2, x39)))))))))))
 else bif !(x40.1.1.1 == x41.1 && (x40.1.1.2.1 == x41.2.1 && (x40.1.1.2.2.1 == x41.2.2.1 && true) && (x40.1.1.2.2.2.1 == x41.2.2.2.1 && (x40.1.1.2.2.2.2.1 == x41.2.2.2.2.1 && (x40.1.1.2.2.2.2.2.1 == x41.2.2.2.2.2.1 && (x40.1.1.2.2.2.2.2.2 == x41.2.2.2.2.2.2 && true)) && true)))) then
 some (Sum.inr (Sum.inr false))
 else kk x39 (kk x40.2.2 (kk x37 (some (Sum.inl ((x32.1, (x32.2.1, (x32.2.2.1, (x32.2.2.2.1, (x32.2.2.2.2.1, (IntKind.i64.wrap (x32.2.2.2.2.2 + (1 : Int)))))))), (x33, (x34, (x40.2.1, (x36, (x37, (x40.2.2, x39))))))))))))
 else kk x39 (kk x38 (kk x37 (some (Sum.inr (Sum.inl ((x32.1, (x32.2.1, (x32.2.2.1, (x32.2.2.2.1, (IntKind.i64.wrap (x32.2.2.2.2.1 + (1 : Int))))))), (x33, (x34, (x35, (x36, (x37, (x38, x39))))))))))))
def KP : aii → Option (aeS ⊕ Bool) := zO fun s => zx s.1 s.2.1 s.2.2.1 s.2.2.2.1 s.2.2.2.2.1 s.2.2.2.2.2.1 s.2.2.2.2.2.2.1 s.2.2.2.2.2.2.2
def zu (x24 : (Int × (Int × (Int × ((List Int) × Int))))) (x25 : Y3_) (x26 : Y4_) (x27 : Y4_) (x28 : Y4_) (x29 : (List Int)) (x30 : (List Y1_)) (x31 : (List Y1_)) : Option (aeS ⊕ Bool) :=
 bif decide (x24.2.2.2.2 < x24.1) then
 kk x31 (kk x30 (kk x29 ((KP ((x24.1, (x24.2.1, (x24.2.2.1, (x24.2.2.2.1, (x24.2.2.2.2, ((0 : Int))))))), (x25, (x26, (x27, (x28, (x29, (x30, x31)))))))).bind fun x32 =>
 some x32)))
 else Option.bind (Option.some true) fun (x32 : Bool) =>
 bif x32 then
 kk x30 ((qj x27 x30).bind fun x33 =>
 bif x33.1 == x24.2.2.1 then
 kk x33.2.2 ((qy x33.2.1 x33.2.2).bind fun x34 =>
 bif x34.1 == (↑x24.2.2.2.1.length : Int) then
 kk x31 (kk x29 ((Ww x25 x28 x31 x29).bind fun x35 =>
 some (Sum.inr !x35.1)))
 else some (Sum.inr false))
 else some (Sum.inr false))
 else some (Sum.inr false)
def Kd : aeS → Option Bool := zO fun s => zu s.1 s.2.1 s.2.2.1 s.2.2.2.1 s.2.2.2.2.1 s.2.2.2.2.2.1 s.2.2.2.2.2.2.1 s.2.2.2.2.2.2.2
def zb (x13 : (Int × Y4_)) (x14 : (List Int)) (x15 : Y3_) (x16 : (List Int)) (x17 : Y4_) (x18 : (List Int)) (x19 : (List Y1_)) : Option (((Int × Y4_) × ((List Int) × afU)) ⊕ Bool) :=
 kk x14 (bif decide (x13.2.2.2 < (↑(List.length x14) : Int)) then
 bif decide (0 ≤ x13.2.2.2) then
 bif decide (x13.2.2.2.toNat < List.length x14 ∧ List.length x14 = List.length x14) then
 kk x14 ((x14[x13.2.2.2.toNat]?).bind fun x20 =>
 bif decide (0 ≤ x13.2.2.2) then
 bif decide (x13.2.2.2.toNat < List.length x14 ∧ List.length x14 = List.length x14) then
 kk x14 ((x14[x13.2.2.2.toNat]?).bind fun x21 =>
 kk x19 (kk x18 (kk x16 (bif decide (List.length x14 = (List.set x14 x13.2.2.2.toNat (if (0 : Int) > x20 then (0 : Int) else x20)).length) then
 some (Sum.inl ((x13.1, (x13.2.1, (x13.2.2.1, (IntKind.i64.wrap (x13.2.2.2 + (1 : Int)))))), ((List.set x14 x13.2.2.2.toNat (if (0 : Int) > x20 then (0 : Int) else x20)), (x15, (x16, (x17, (x18, x19)))))))
 else none))))
 else none
 else none)
 else none
 else none
 else kk x14 (bif decide ((1 : Nat) = (1 : Nat) ∧ (1 : Nat) + List.length x14 ≤ (17592186044416 : Nat)) then
 bif decide (([(0 : Int)] ++ x14).length = (1 : Nat) + List.length x14) then
 (Qc ((0 : Int), (0 : Int), (0 : Int)) ([(0 : Int)] ++ x14)).bind fun x20 =>
 kk x14 (bif decide ((1 : Nat) = (1 : Nat) ∧ (1 : Nat) + List.length x14 ≤ (17592186044416 : Nat)) then
 bif decide ((2 : Nat) = (2 : Nat)) then
 bif decide (([(0 : Int)] ++ x14).length = (1 : Nat) + List.length x14) then
 bif decide ((2 : Nat) = (2 : Nat)) then
 kk x19 (kk x18 ((yT [((3 : Int), (72 : Int), [IntKind.i64.wrap (x13.2.2.1 + (1 : Int)), (1 : Int)]), ((3 : Int), (109 : Int), [(0 : Int)] ++ x14)] x15 x17 x19 x18).bind fun x21 =>
 kk x16 (kk x21.2.2.1 (kk x21.2.2.2 ((Zp x16 x21.1 x21.2.1 x21.2.2.1 x21.2.2.2).bind fun x22 =>
 kk x22.2.2.1 (kk x22.2.2.2 ((W3 x22.1 x22.2.1 x22.2.2.1 x22.2.2.2).bind fun x23 =>
 kk x23.2.2.1 (kk x23.2.2.2.2.2 (kk x23.2.2.2.1 (kk x16 ((Kd ((x13.1, (x13.2.1, (x13.2.2.1, (x16, ((0 : Int)))))), (x23.1, (x20, (x23.2.2.2.2.1, (x23.2.1, (x23.2.2.2.1, (x23.2.2.2.2.2, x23.2.2.1)))))))).bind fun x24 =>
 some (Sum.inr x24))))))))))))
 else none
 else none
 else none
 else none)
 else none
 else none))
def wt : ((Int × Y4_) × ((List Int) × afU)) → Option Bool := zO fun s => zb s.1 s.2.1 s.2.2.1 s.2.2.2.1 s.2.2.2.2.1 s.2.2.2.2.2.1 s.2.2.2.2.2.2
def zw (x7 : ai1) (x8 : Y3_) (x9 : (List Int)) (x10 : Y4_) (x11 : (List Int)) (x12 : (List Y1_)) : Option ((ai1 × afU) ⊕ Bool) :=
 bif decide (x7.2.2.2.2.2 < (↑x7.2.2.2.1.length : Int)) then
 bif decide (x7.2.2.2.2.2 < 15) then
 bif decide (x7.2.2.2.2.2 < IntKind.i64.wrap (x7.2.1 - (1 : Int))) then
 bif decide (0 ≤ x7.2.2.2.2.2) then
 (x7.2.2.2.1[x7.2.2.2.2.2.toNat]?).bind fun x13 =>
 bif decide ((1 : Nat) = (1 : Nat)) then
 bif decide (List.length x9 = List.length x9 ∧ List.length x9 + (1 : Nat) ≤ (140737488355328 : Nat)) then
 kk x12 (kk x11 (bif decide (List.length x9 + (1 : Nat) = (x9 ++ [IntKind.u8.wrap ((97 : Int) + Int.tmod x13 (26 : Int))]).length) then
 some (Sum.inl ((x7.1, (x7.2.1, (x7.2.2.1, (x7.2.2.2.1, (x7.2.2.2.2.1, (IntKind.i64.wrap (x7.2.2.2.2.2 + (1 : Int)))))))), (x8, ((x9 ++ [IntKind.u8.wrap ((97 : Int) + Int.tmod x13 (26 : Int))]), (x10, (x11, x12))))))
 else none))
 else none
 else none
 else none
 else bif decide (((0 : Int) ≤ if 8 < (↑x7.2.2.2.2.1.length : Int) then (8 : Int) else (↑x7.2.2.2.2.1.length : Int)) ∧ (if 8 < (↑x7.2.2.2.2.1.length : Int) then (8 : Int) else (↑x7.2.2.2.2.1.length : Int)).toNat ≤ x7.2.2.2.2.1.length) then
 bif decide ((0 : Nat) = (0 : Nat) ∧ (0 : Nat) + (List.take (if 8 < (↑x7.2.2.2.2.1.length : Int) then (8 : Int) else (↑x7.2.2.2.2.1.length : Int)).toNat x7.2.2.2.2.1).length ≤ (17592186044416 : Nat)) then
 kk x12 (kk x11 (kk x9 (bif decide ((0 : Nat) + (List.take (if 8 < (↑x7.2.2.2.2.1.length : Int) then (8 : Int) else (↑x7.2.2.2.2.1.length : Int)).toNat x7.2.2.2.2.1).length = ([] ++ List.take (if 8 < (↑x7.2.2.2.2.1.length : Int) then (8 : Int) else (↑x7.2.2.2.2.1.length : Int)).toNat x7.2.2.2.2.1).length) then
 (wt ((x7.1, (x7.2.1, (x7.2.2.1, ((0 : Int))))), (([] ++ List.take (if 8 < (↑x7.2.2.2.2.1.length : Int) then (8 : Int) else (↑x7.2.2.2.2.1.length : Int)).toNat x7.2.2.2.2.1), (x8, (x9, (x10, (x11, x12))))))).bind fun x13 =>
 some (Sum.inr x13)
 else none)))
 else none
 else none
 else bif decide (((0 : Int) ≤ if 8 < (↑x7.2.2.2.2.1.length : Int) then (8 : Int) else (↑x7.2.2.2.2.1.length : Int)) ∧ (if 8 < (↑x7.2.2.2.2.1.length : Int) then (8 : Int) else (↑x7.2.2.2.2.1.length : Int)).toNat ≤ x7.2.2.2.2.1.length) then
 bif decide ((0 : Nat) = (0 : Nat) ∧ (0 : Nat) + (List.take (if 8 < (↑x7.2.2.2.2.1.length : Int) then (8 : Int) else (↑x7.2.2.2.2.1.length : Int)).toNat x7.2.2.2.2.1).length ≤ (17592186044416 : Nat)) then
 kk x12 (kk x11 (kk x9 (bif decide ((0 : Nat) + (List.take (if 8 < (↑x7.2.2.2.2.1.length : Int) then (8 : Int) else (↑x7.2.2.2.2.1.length : Int)).toNat x7.2.2.2.2.1).length = ([] ++ List.take (if 8 < (↑x7.2.2.2.2.1.length : Int) then (8 : Int) else (↑x7.2.2.2.2.1.length : Int)).toNat x7.2.2.2.2.1).length) then
 (wt ((x7.1, (x7.2.1, (x7.2.2.1, ((0 : Int))))), (([] ++ List.take (if 8 < (↑x7.2.2.2.2.1.length : Int) then (8 : Int) else (↑x7.2.2.2.2.1.length : Int)).toNat x7.2.2.2.2.1), (x8, (x9, (x10, (x11, x12))))))).bind fun x13 =>
 some (Sum.inr x13)
 else none)))
 else none
 else none
 else bif decide (((0 : Int) ≤ if 8 < (↑x7.2.2.2.2.1.length : Int) then (8 : Int) else (↑x7.2.2.2.2.1.length : Int)) ∧ (if 8 < (↑x7.2.2.2.2.1.length : Int) then (8 : Int) else (↑x7.2.2.2.2.1.length : Int)).toNat ≤ x7.2.2.2.2.1.length) then
 bif decide ((0 : Nat) = (0 : Nat) ∧ (0 : Nat) + (List.take (if 8 < (↑x7.2.2.2.2.1.length : Int) then (8 : Int) else (↑x7.2.2.2.2.1.length : Int)).toNat x7.2.2.2.2.1).length ≤ (17592186044416 : Nat)) then
 kk x12 (kk x11 (kk x9 (bif decide ((0 : Nat) + (List.take (if 8 < (↑x7.2.2.2.2.1.length : Int) then (8 : Int) else (↑x7.2.2.2.2.1.length : Int)).toNat x7.2.2.2.2.1).length = ([] ++ List.take (if 8 < (↑x7.2.2.2.2.1.length : Int) then (8 : Int) else (↑x7.2.2.2.2.1.length : Int)).toNat x7.2.2.2.2.1).length) then
 (wt ((x7.1, (x7.2.1, (x7.2.2.1, ((0 : Int))))), (([] ++ List.take (if 8 < (↑x7.2.2.2.2.1.length : Int) then (8 : Int) else (↑x7.2.2.2.2.1.length : Int)).toNat x7.2.2.2.2.1), (x8, (x9, (x10, (x11, x12))))))).bind fun x13 =>
 some (Sum.inr x13)
 else none)))
 else none
 else none
def KK : (ai1 × afU) → Option Bool := zO fun s => zw s.1 s.2.1 s.2.2.1 s.2.2.2.1 s.2.2.2.2.1 s.2.2.2.2.2
def Qm (x0 : Int) (x1 : Int) (x2 : Int) (x3 : (List Int)) (x4 : (List Int)) : Option Bool :=
 (Jk (IntKind.i64.wrap ((1 : Int) + IntKind.i64.wrap ((IntKind.u64.wrap x0).tmod (12 : Int)))) (IntKind.i64.wrap ((2 : Int) + IntKind.i64.wrap ((IntKind.u64.wrap x1).tmod (19 : Int))))).bind fun x5 =>
 match x5 with
  | Sum.inl x6 =>
   some false
  | Sum.inr x6 =>
   bif decide (IntKind.u64.wrap (IntKind.i64.wrap ((1 : Int) + IntKind.i64.wrap ((IntKind.u64.wrap x0).tmod (12 : Int)))) ≠ (0 : Int)) then
   kk x6.2.2.1 (kk x6.2.2.2 ((KK (((IntKind.i64.wrap ((1 : Int) + IntKind.i64.wrap ((IntKind.u64.wrap x0).tmod (12 : Int)))), ((IntKind.i64.wrap ((2 : Int) + IntKind.i64.wrap ((IntKind.u64.wrap x1).tmod (19 : Int)))), ((IntKind.i64.wrap ((IntKind.u64.wrap x2).tmod (IntKind.u64.wrap (IntKind.i64.wrap ((1 : Int) + IntKind.i64.wrap ((IntKind.u64.wrap x0).tmod (12 : Int))))))), (x3, (x4, ((0 : Int))))))), (x6.1, ([], (x6.2.1, (x6.2.2.2, x6.2.2.1)))))).bind fun x7 =>
   some x7))
   else none
def a3W : TEnt := ⟨7, .cons (.int .i64) (.cons (.int .i64) (.cons (.int .i64) (.cons (.sl (.int .u8)) (.sl (.int .i64))))), [], [(.bool, [])], fun s => Qm s.1 s.2.1 s.2.2.1 s.2.2.2.1 s.2.2.2.2⟩
theorem ug : qK Try.prog a3W := kT (loops := [(153391690, [0, 1, 2, 3, 4, 11, 13, 14], (.cons (.int .i64) (.cons (.int .i64) (.cons (.int .i64) (.cons (.sl (.int .u8)) (.cons (.sl (.int .i64)) (.cons (.ptr 0 0) (.cons (.own 1) (.int .i64)))))))), [.st (.cons (.ptr 2 0) Y7_), .li (.int .u8) 5 false, .st (.cons (.int .i64) (.cons (.int .i64) (.cons (.own 4) (.int .i64)))), .li (.int .i64) 3 false, .li (.sl Y2_) 151 false]), (78536544842, [0, 1, 2, 4, 11, 13, 15], (.cons (.int .i64) (.cons (.int .i64) (.cons (.int .i64) (.cons (.own 0) (.cons (.ptr 1 0) (.cons (.own 2) (.int .i64))))))), [.li (.int .i64) 3 false, .st (.cons (.ptr 3 0) (.cons (.int .u8) (.cons (.int .u8) (.cons (.int .u8) (.cons (.int .i64) (.cons (.int .i64) (.cons (.own 4) (.cons (.int .u8) (.cons (.int .u8) (.cons (.int .u8) .bool)))))))))), .li (.int .u8) 5 false, .st (.cons (.int .i64) (.cons (.int .i64) (.cons (.own 5) (.int .i64)))), .li (.int .i64) 3 false, .li (.sl Y2_) 151 false]), (20587884010836554, [0, 1, 2, 11, 13, 16, 17, 18], (.cons (.int .i64) (.cons (.int .i64) (.cons (.int .i64) (.cons (.ptr 0 0) (.cons (.sl (.int .u8)) (.cons (.ptr 1 0) (.cons (.ptr 2 0) (.int .i64)))))))), aiI), (5396990266136737682058, [0, 1, 2, 11, 13, 16, 17, 18, 19], (.cons (.int .i64) (.cons (.int .i64) (.cons (.int .i64) (.cons (.ptr 0 0) (.cons (.sl (.int .u8)) (.cons (.ptr 1 0) (.cons (.ptr 2 0) JF))))))), aiI)]) (joins := []) (un := []) _ (tc yf (tc kA (tc j4 (tc a0T (tc JV (tc a2J (tc V0 (tc uZ (tc uC (tc XP (tc uS tn))))))))))) (fun s => by kernel_rfl) (by kernel_rfl)
set_option maxHeartbeats 4000000
theorem XB : kQ 0 0 0 = some (32, 0, 0, 1, 0, 0, 0) := rfl
theorem ab8 {nr nc row : Nat} {l : List Int} {p : Int × (Int × Int)} (hl : ∀ b ∈ l, jb b) (hr : row < nr) (hc : l.length < nc) (h512 : nc ≤ 512) (hlen : ∀ x ∈ zd nr nc row l p l.length, x.length = nc) (hn : l.length ≤ 100) {r : Nat} (h1 : r < nr) (hnr : nr ≤ 512) (E : EmT) (g : Int × (Int × Int)) (a b : Int) (ns : List Int) (L0 : qx) :
  KP (((nr : Int), ((nc : Int), ((row : Int), (l, ((r : Int), (0 : Int)))))), (E, (p, ((a, b, (nc : Int)), (g, (ns, (zd nr nc row l p l.length, L0))))))) =
   some (.inl (((nr : Int), ((nc : Int), ((row : Int), (l, ((r + 1 : Nat) : Int))))), (E, (p, ((a, b, (nc : Int)), (g, (ns, (zd nr nc row l p l.length, L0)))))))) := by
 refine jd (step := fun s => zx s.1 s.2.1 s.2.2.1 s.2.2.2.1 s.2.2.2.2.1 s.2.2.2.2.2.1 s.2.2.2.2.2.2.1 s.2.2.2.2.2.2.2) (st := fun i => (((nr : Int), ((nc : Int), ((row : Int), (l, ((r : Int), ((i : Nat) : Int)))))), (E, (p, ((a, b, (nc : Int)), (g, (ns, (zd nr nc row l p l.length, L0)))))))) (n := nc) (fun c hcc => ?_) ?_ 0 (by omega)
 ·show zx _ _ _ _ _ _ _ _ = _
  have e : ((c : Int) + 1) = ((c + 1 : Nat) : Int) := by omega
  have a1 := afs hlen (r : Int) (c : Int) a b
  rw [a5Q hr hc h512 h1 hcc] at a1
  unfold zx
  by_cases hrow : r = row
  ·subst hrow
   by_cases h3 : c < l.length
   ·obtain ⟨x, hx⟩ := qS h3
    have hB := hl x (List.mem_of_getElem? hx)
    have hw := UX hB
    rw [if_pos ⟨rfl, h3⟩, hx] at a1
    have a1' : wG ((r : Int), (c : Int)) (a, b, (nc : Int)) (zd nr nc r l p l.length) = some (((x, 0, 0, 1, p.1, p.2.1, p.2.2), true), (a, b, (nc : Int)), zd nr nc r l p l.length) := by
     rw [a1]
     unfold Vm wu
     simp only [q8, Option.getD_some, ZQ hB]
    simp (disch := omega) only [q8, qn, qc, qg, qk, qw, ze, jE, qm, a1', XB, hx, hw, e, beq_self_eq_true, Bool.and_self]
   ·rw [if_neg (fun q => h3 q.2)] at a1
    have a1' : wG ((r : Int), (c : Int)) (a, b, (nc : Int)) (zd nr nc r l p l.length) = some (((32, 0, 0, 1, 0, 0, 0), true), (a, b, (nc : Int)), zd nr nc r l p l.length) := a1
    simp (disch := omega) only [q8, qn, qt, qc, qg, qk, qw, ze, jE, qm, a1', XB, e, beq_self_eq_true, Bool.and_self]
  ·rw [if_neg (fun q => hrow q.1)] at a1
   have a1' : wG ((r : Int), (c : Int)) (a, b, (nc : Int)) (zd nr nc row l p l.length) = some (((32, 0, 0, 1, 0, 0, 0), true), (a, b, (nc : Int)), zd nr nc row l p l.length) := a1
   simp (disch := omega) only [q8, qn, qY, qc, qg, qk, qw, ze, jE, qm, a1', XB, e, beq_self_eq_true, Bool.and_self]
 ·show zx _ _ _ _ _ _ _ _ = _
  have e : ((r : Int) + 1) = ((r + 1 : Nat) : Int) := by omega
  unfold zx
  simp (disch := omega) only [q8, qn, qt, qc, qg, qk, ze, qm, e]
theorem aaB {nr nc row : Nat} {l : List Int} {p : Int × (Int × Int)} (hl : ∀ b ∈ l, jb b) (hr : row < nr) (hc : l.length < nc) (h512 : nc ≤ 512) (hlen : ∀ x ∈ zd nr nc row l p l.length, x.length = nc) (hn : l.length ≤ 100) (hnr : nr ≤ 512) (h0 h1 h2 n st p1 p2 p3 : Int) (g : Int × (Int × Int)) (ns : List Int) (L0 : qx) :
  Kd (((nr : Int), ((nc : Int), ((row : Int), (l, (0 : Int))))), ((h0, h1, h2, n, st, p1, p2, p3, false), (p, (((row : Int), (l.length : Int), (nc : Int)), (g, (ns, (zd nr nc row l p l.length, L0))))))) = some true := by
 refine jd (step := fun s => zu s.1 s.2.1 s.2.2.1 s.2.2.2.1 s.2.2.2.2.1 s.2.2.2.2.2.1 s.2.2.2.2.2.2.1 s.2.2.2.2.2.2.2) (st := fun i => (((nr : Int), ((nc : Int), ((row : Int), (l, ((i : Nat) : Int))))), ((h0, h1, h2, n, st, p1, p2, p3, false), (p, (((row : Int), (l.length : Int), (nc : Int)), (g, (ns, (zd nr nc row l p l.length, L0)))))))) (n := nr) (fun r h1' => ?_) ?_ 0 (by omega)
 ·show zu _ _ _ _ _ _ _ _ = _
  have a1 := ab8 hl hr hc h512 hlen hn h1' hnr (h0, h1, h2, n, st, p1, p2, p3, false) g (row : Int) (l.length : Int) ns L0
  unfold zu
  simp (disch := omega) only [q8, qn, qg, qw, qm, a1]
 ·show zu _ _ _ _ _ _ _ _ = _
  unfold zu
  simp (disch := omega) only [q8, qt, qg, qk, qw, K6, qm, qj, qy, Ww, beq_self_eq_true]
theorem afn {cs : List Int} (h : ∀ v ∈ cs, 0 ≤ v) : ([0] ++ cs).map yq = [0] ++ cs := by
 have : ∀ v ∈ [0] ++ cs, yq v = v := by
  intro v hv
  unfold yq
  rcases List.mem_append.1 hv with q | q
  ·rw [List.mem_singleton.1 q]; rfl
  ·have := h v q
   rw [if_neg (by omega)]
 rw [List.map_congr_left this, List.map_id']
theorem a6Z {nr nc row : Nat} {l cs : List Int} (hl : ∀ b ∈ l, jb b) (hr : row < nr) (hc : l.length < nc) (hside : qO (nr : Int) = true ∧ qO (nc : Int) = true) (hn : l.length ≤ 100) (hcs : ∀ v ∈ cs, 0 ≤ v ∧ yA v) (hcl : cs.length ≤ 8) :
  zb ((nr : Int), (nc : Int), (row : Int), (cs.length : Int)) cs (0, 0, 0, 0, 0, 0, 0, 0, false) l (0, 0, (nc : Int)) [] (ZJ nr nc).1 = some (.inr true) := by
 have hr' : 1 ≤ (nr : Int) ∧ (nr : Int) ≤ 512 := by have := hside.1; unfold qO at this; simpa using this
 have hc' : 1 ≤ (nc : Int) ∧ (nc : Int) ≤ 512 := by have := hside.2; unfold qO at this; simpa using this
 have hok := afy hside.1 hside.2
 have h0i : yA 0 := by unfold yA; omega
 have hes : ∀ v ∈ [0] ++ cs, yA v := by
  intro v hv
  rcases List.mem_append.1 hv with q | q
  ·rw [List.mem_singleton.1 q]; exact h0i
  ·exact (hcs v q).2
 have hel : ([0] ++ cs).length = cs.length + 1 := by rw [List.length_append]; show 1 + cs.length = _; omega
 have a0 := Xo VE (l := [0] ++ cs) (by omega) hes
 rw [if_neg (by omega)] at a0
 have hp := Qu VE ([0] ++ cs)
 have hev : ∀ x ∈ ([(3, 72, [((row + 1 : Nat) : Int), 1]), (3, 109, [0] ++ cs)] : List EvT), EvOk x := by
  intro x hx
  simp only [q8, List.mem_cons, List.not_mem_nil, or_false] at hx
  rcases hx with rfl | rfl
  ·refine ⟨(by unfold Zi; simp), (by simp), fun v hv => ?_⟩
   simp only [q8, List.mem_cons, List.not_mem_nil, or_false] at hv
   rcases hv with rfl | rfl
   ·exact ⟨by omega, by omega⟩
   ·unfold yA; omega
  ·exact ⟨(by unfold Zi; simp), by show ([0] ++ cs).length ≤ 1000; omega, hes⟩
 have a1 := a92 hok hev (by simp) 0 0 0 0 0 []
 have hd : doL nc (ZJ nr nc) [(3, 72, [((row + 1 : Nat) : Int), 1]), (3, 109, [0] ++ cs)] = (zd nr nc row l (wk (0, 0, 0) ([0] ++ cs)) 0, row, 0, wk (0, 0, 0) ([0] ++ cs), false) := by
  have q1 : doS nc (ZJ nr nc) (3, 72, [((row + 1 : Nat) : Int), 1]) = ((ZJ nr nc).1, row, 0, (0, 0, 0), false) := by
   show doQ (ZJ nr nc).1 nc 0 0 (0, 0, 0) false 3 72 [((row + 1 : Nat) : Int), 1] = _
   have b0 : yt [((row + 1 : Nat) : Int), 1] 0 = ((row + 1 : Nat) : Int) := by
    unfold yt jB
    simp only [q8, List.getElem?_cons_zero]
    rw [if_neg (by omega)]
    omega
   have b1 : yt [((row + 1 : Nat) : Int), 1] 1 = 1 := rfl
   unfold doQ
   simp only [q8, b0, b1]
   have hlen : (ZJ nr nc).1.length = nr := List.length_replicate
   have c0 : qX (((row + 1 : Nat) : Int) - 1) (ZJ nr nc).1.length = row := by rw [hlen]; unfold qX; omega
   have c1 : qX ((1 : Int) - 1) nc = 0 := by unfold qX; omega
   rw [c0, c1]
   rfl
  have q2 : doS nc ((ZJ nr nc).1, row, 0, (0, 0, 0), false) (3, 109, [0] ++ cs) = ((ZJ nr nc).1, row, 0, wk (0, 0, 0) ([0] ++ cs), false) := by
   show doQ (ZJ nr nc).1 nc row 0 (0, 0, 0) false 3 109 ([0] ++ cs) = _
   have : ZZ (0, 0, 0) ([0] ++ cs) = wk (0, 0, 0) ([0] ++ cs) := by
    unfold ZZ
    rw [if_neg (by omega), afn fun v hv => (hcs v hv).1]
   rw [← this]
   rfl
  unfold doL
  rw [List.foldl_cons, List.foldl_cons, List.foldl_nil, q1, q2, ahT hr (by omega)]
  rfl
 have hok2 := a1j hok hev
 rw [hd] at a1 hok2
 generalize wk (0, 0, 0) ([0] ++ cs) = p at *
 have a1' : yT [(3, 72, [((row + 1 : Nat) : Int), 1]), (3, 109, [0] ++ cs)] (0, 0, 0, 0, 0, 0, 0, 0, false) ((0 : Int), (0 : Int), (nc : Int)) (ZJ nr nc).1 [] = some ((0, 0, 0, 0, 0, p.1, p.2.1, p.2.2, false), ((row : Int), (0 : Int), (nc : Int)), zd nr nc row l p 0, []) := a1
 have a2 := Vp hl hp hr hc (by omega) (by omega) hok2 0 0 0 []
 have hev2 : ∀ x ∈ (l.map fun b => ((1, b, []) : EvT)), EvOk x := by
  intro x hx
  obtain ⟨b, hb, rfl⟩ := List.mem_map.1 hx
  obtain ⟨b1, b2⟩ := hl b hb
  exact ⟨⟨by show -2147483648 ≤ b; omega, by show b < 2147483648; omega⟩, by show 0 ≤ 1000; omega, fun v hv => by simp at hv⟩
 have hok3 := a1j hok2 hev2
 have hdl := Wf hl hp hr hc l.length (Nat.le_refl _)
 rw [List.take_length] at hdl
 rw [hdl] at hok3
 have hG : GOk (zd nr nc row l p l.length) nc := hok3.g
 have a3 := aaH hG.small (by have := hG.rows; omega) ((row : Int), (l.length : Int), (nc : Int))
 have a4 := aaB hl hr hc (by omega) (fun x hx => (hG.line x hx).len) hn (by omega) 0 0 0 0 0 p.1 p.2.1 p.2.2 ((row : Int), (l.length : Int), (nc : Int)) [] (zd nr nc row l p l.length)
 have e : (row : Int) + 1 = ((row + 1 : Nat) : Int) := by omega
 unfold zb W3
 simp (disch := omega) only [q8, qn, qt, qc, qg, qk, qw, ze, zQ, qm, true_and, and_true, a0, a1', a2, a3, a4, e, hel]
def Zw (v : Int) : Int := if (0 : Int) > v then 0 else v
theorem a8j {nr nc row : Nat} {l cs : List Int} (hl : ∀ b ∈ l, jb b) (hr : row < nr) (hc : l.length < nc) (hside : qO (nr : Int) = true ∧ qO (nc : Int) = true) (hn : l.length ≤ 100) (hcs : ∀ v ∈ cs, yA v) (hcl : cs.length ≤ 8) :
  wt (((nr : Int), ((nc : Int), ((row : Int), (0 : Int)))), (cs, ((0, 0, 0, 0, 0, 0, 0, 0, false), (l, ((0, 0, (nc : Int)), ([], (ZJ nr nc).1)))))) = some true := by
 have main := jd (step := fun s => zb s.1 s.2.1 s.2.2.1 s.2.2.2.1 s.2.2.2.2.1 s.2.2.2.2.2.1 s.2.2.2.2.2.2) (st := fun i => (((nr : Int), ((nc : Int), ((row : Int), ((i : Nat) : Int)))), ((cs.map Zw).take i ++ cs.drop i, (((0, 0, 0, 0, 0, 0, 0, 0, false) : EmT), (l, (((0, 0, (nc : Int)) : Int × (Int × Int)), (([] : List Int), (ZJ nr nc).1))))))) (n := cs.length) (t := true) (fun i hi => ?_) ?_ 0 (by omega)
 ·simp only [q8, List.take_zero, List.drop_zero, List.nil_append] at main
  exact main
 ·show zb _ _ _ _ _ _ _ = _
  obtain ⟨v, hv⟩ := qS hi
  have e : ((i : Int) + 1) = ((i + 1 : Nat) : Int) := by omega
  have hlen : ((cs.map Zw).take i ++ cs.drop i).length = cs.length := by simp only [q8, jf, List.length_take, Qg, List.length_drop]; omega
  have hget : ((cs.map Zw).take i ++ cs.drop i)[i]? = some v := by
   rw [List.getElem?_append_right (by rw [List.length_take, List.length_map]; omega), List.length_take, List.length_map, List.getElem?_drop, show i + (i - min i cs.length) = i by omega]
   exact hv
  have hset : ((cs.map Zw).take i ++ cs.drop i).set i (Zw v) = (cs.map Zw).take (i + 1) ++ cs.drop (i + 1) := by
   have hd : cs.drop i = v :: cs.drop (i + 1) := by
    obtain ⟨g1, g2⟩ := List.getElem?_eq_some_iff.1 hv
    rw [← g2]
    exact List.drop_eq_getElem_cons g1
   have hm : (cs.map Zw)[i]? = some (Zw v) := by rw [List.getElem?_map, hv]; rfl
   rw [yE hm, hd, List.append_assoc, List.singleton_append]
   have hi2 : i = ((cs.map Zw).take i).length := by rw [List.length_take, List.length_map]; omega
   rw [List.set_append_right _ _ (by omega), show i - ((cs.map Zw).take i).length = 0 by omega]
   rfl
  have hl2 : ((cs.map Zw).take (i + 1) ++ cs.drop (i + 1)).length = cs.length := by simp only [q8, jf, List.length_take, Qg, List.length_drop]; omega
  have hset' : ((cs.map Zw).take i ++ cs.drop i).set i (if (0 : Int) > v then (0 : Int) else v) = (cs.map Zw).take (i + 1) ++ cs.drop (i + 1) := hset
  unfold zb
  generalize (cs.map Zw).take i ++ cs.drop i = A at *
  generalize (cs.map Zw).take (i + 1) ++ cs.drop (i + 1) = B at *
  simp (disch := omega) only [q8, qn, qc, qg, qw, ze, jf, y7, zQ, qm, true_and, and_true, hget, hset', hlen, hl2, e]
 ·show zb _ _ _ _ _ _ _ = _
  have ee : (cs.map Zw).take cs.length ++ cs.drop cs.length = cs.map Zw := by
   rw [List.drop_length, List.append_nil, List.take_of_length_le (by simp)]
  rw [ee]
  have hp : ∀ v ∈ cs.map Zw, 0 ≤ v ∧ yA v := by
   intro v hv
   obtain ⟨u, hu, rfl⟩ := List.mem_map.1 hv
   have hi := hcs u hu
   unfold yA at hi
   unfold Zw yA
   split <;> omega
  have := a6Z hl hr hc hside hn hp (by rw [List.length_map]; exact hcl)
  rw [List.length_map] at this
  exact this
def X3 (x : Int) : Int := IntKind.u8.wrap (97 + Int.tmod x 26)
theorem adl {x : Int} (h : u8r x) : jb (X3 x) := by
 obtain ⟨h1, h2⟩ := h
 have e : Int.tmod x 26 = x % 26 := Int.tmod_eq_emod_of_nonneg h1
 have : IntKind.u8.wrap (97 + x % 26) = 97 + x % 26 := QU (by omega) (by omega)
 unfold X3
 rw [e, this]
 exact ⟨by omega, by omega⟩
theorem aiK (l : List Int) : (0 : Int) ≤ (if (8 : Int) < (l.length : Int) then (8 : Int) else (l.length : Int)) ∧ (if (8 : Int) < (l.length : Int) then (8 : Int) else (l.length : Int)).toNat = min 8 l.length ∧ l.take (min 8 l.length) = l.take 8 := by
 refine ⟨by split <;> omega, by split <;> omega, ?_⟩
 by_cases h : 8 ≤ l.length
 ·rw [Nat.min_eq_left h]
 ·rw [Nat.min_eq_right (by omega), List.take_of_length_le (Nat.le_refl _), List.take_of_length_le (by omega)]
theorem a0v {nr nc row : Nat} {ls cs : List Int} (hls : ∀ b ∈ ls, u8r b) (hr : row < nr) (hnc : 2 ≤ nc) (hside : qO (nr : Int) = true ∧ qO (nc : Int) = true) (hcs : ∀ v ∈ cs, yA v) :
  KK (((nr : Int), ((nc : Int), ((row : Int), (ls, (cs, (0 : Int)))))), ((0, 0, 0, 0, 0, 0, 0, 0, false), ([], ((0, 0, (nc : Int)), ([], (ZJ nr nc).1))))) = some true := by
 have hc' : 1 ≤ (nc : Int) ∧ (nc : Int) ≤ 512 := by have := hside.2; unfold qO at this; simpa using this
 have hN : min ls.length (min 15 (nc - 1)) ≤ ls.length := by omega
 refine jd (step := fun s => zw s.1 s.2.1 s.2.2.1 s.2.2.2.1 s.2.2.2.2.1 s.2.2.2.2.2) (st := fun i => (((nr : Int), ((nc : Int), ((row : Int), (ls, (cs, ((i : Nat) : Int)))))), (((0, 0, 0, 0, 0, 0, 0, 0, false) : EmT), ((ls.map X3).take i, (((0, 0, (nc : Int)) : Int × (Int × Int)), (([] : List Int), (ZJ nr nc).1)))))) (n := min ls.length (min 15 (nc - 1))) (t := true) (fun i hi => ?_) ?_ 0 (by omega)
 ·show zw _ _ _ _ _ _ = _
  obtain ⟨x, hx⟩ := qS (l := ls) (i := i) (by omega)
  have e : ((i : Int) + 1) = ((i + 1 : Nat) : Int) := by omega
  have hm : (ls.map X3)[i]? = some (X3 x) := by rw [List.getElem?_map, hx]; rfl
  have hle : ((ls.map X3).take i).length ≤ 1000 := by rw [List.length_take]; omega
  rw [yE hm]
  unfold zw
  generalize (ls.map X3).take i = A at *
  have e2 : A ++ [IntKind.u8.wrap (97 + Int.tmod x 26)] = A ++ [X3 x] := rfl
  simp (disch := omega) only [q8, qn, qc, qg, qw, ze, jf, y7, zQ, qm, true_and, hx, e, e2]
 ·show zw _ _ _ _ _ _ = _
  have hlen : ((ls.map X3).take (min ls.length (min 15 (nc - 1)))).length = min ls.length (min 15 (nc - 1)) := by rw [List.length_take, List.length_map]; omega
  have hlet : ∀ b ∈ (ls.map X3).take (min ls.length (min 15 (nc - 1))), jb b := by
   intro b hb
   obtain ⟨x, hx, rfl⟩ := List.mem_map.1 (List.mem_of_mem_take hb)
   exact adl (hls x hx)
  obtain ⟨t1, t2, t3⟩ := aiK cs
  have a1 := a8j (cs := cs.take 8) hlet hr (by omega) hside (by omega) (fun v hv => hcs v (List.mem_of_mem_take hv)) (by rw [List.length_take]; omega)
  have t4 : decide ((0 : Int) ≤ (if (8 : Int) < (cs.length : Int) then (8 : Int) else (cs.length : Int)) ∧ min 8 cs.length ≤ cs.length) = true := decide_eq_true ⟨t1, Nat.min_le_right _ _⟩
  have t5 : (cs.take 8).length ≤ 8 := by rw [List.length_take]; omega
  generalize (ls.map X3).take (min ls.length (min 15 (nc - 1))) = out at *
  generalize hNN : min ls.length (min 15 (nc - 1)) = N at *
  unfold zw
  by_cases c1 : N < ls.length
  ·by_cases c2 : N < 15
   ·have c3 : ¬ (N : Int) < (nc : Int) - 1 := by omega
    simp (disch := omega) only [q8, qn, qt, qc, qg, qk, qw, ze, jf, y7, zQ, qm, true_and, t2, t3, List.nil_append, Nat.zero_add, a1]
   ·simp (disch := omega) only [q8, qn, qt, qc, qg, qk, qw, ze, jf, y7, zQ, qm, true_and, t2, t3, List.nil_append, Nat.zero_add, a1]
  ·simp (disch := omega) only [q8, qn, qt, qc, qg, qk, qw, ze, jf, y7, zQ, qm, true_and, t2, t3, List.nil_append, Nat.zero_add, a1]
theorem vf (n : Int) : 0 ≤ IntKind.u64.wrap n ∧ IntKind.u64.wrap n < 18446744073709551616 := by
 have : IntKind.u64.wrap n = n % 18446744073709551616 := by
  simp only [q8, IntKind.wrap, IntKind.bits, IntKind.signed, Bool.false_and]
  rfl
 rw [this]
 omega
theorem Vx {rows cols row : Int} {ls cs : List Int} (hls : ∀ b ∈ ls, u8r b) (hcs : ∀ v ∈ cs, yA v) : Qm rows cols row ls cs = some true := by
 obtain ⟨r1, r2⟩ := vf rows
 obtain ⟨c1, c2⟩ := vf cols
 obtain ⟨w1, w2⟩ := vf row
 have e1 : Int.tmod (IntKind.u64.wrap rows) 12 = IntKind.u64.wrap rows % 12 := Int.tmod_eq_emod_of_nonneg r1
 have e2 : Int.tmod (IntKind.u64.wrap cols) 19 = IntKind.u64.wrap cols % 19 := Int.tmod_eq_emod_of_nonneg c1
 have f1 : IntKind.i64.wrap (IntKind.u64.wrap rows % 12) = IntKind.u64.wrap rows % 12 := qc (by omega) (by omega)
 have f2 : IntKind.i64.wrap (IntKind.u64.wrap cols % 19) = IntKind.u64.wrap cols % 19 := qc (by omega) (by omega)
 have g1 : IntKind.i64.wrap (1 + IntKind.u64.wrap rows % 12) = 1 + IntKind.u64.wrap rows % 12 := qc (by omega) (by omega)
 have g2 : IntKind.i64.wrap (2 + IntKind.u64.wrap cols % 19) = 2 + IntKind.u64.wrap cols % 19 := qc (by omega) (by omega)
 obtain ⟨nr, hnr⟩ : ∃ n : Nat, 1 + IntKind.u64.wrap rows % 12 = n := ⟨(1 + IntKind.u64.wrap rows % 12).toNat, by omega⟩
 obtain ⟨nc, hnc⟩ : ∃ n : Nat, 2 + IntKind.u64.wrap cols % 19 = n := ⟨(2 + IntKind.u64.wrap cols % 19).toNat, by omega⟩
 have u1 : IntKind.u64.wrap (nr : Int) = nr := a2j (by omega) (by omega)
 have e3 : Int.tmod (IntKind.u64.wrap row) (nr : Int) = IntKind.u64.wrap row % (nr : Int) := Int.tmod_eq_emod_of_nonneg w1
 have hm1 : 0 ≤ IntKind.u64.wrap row % (nr : Int) := Int.emod_nonneg _ (by omega)
 have hm2 : IntKind.u64.wrap row % (nr : Int) < nr := Int.emod_lt_of_pos _ (by omega)
 obtain ⟨k, hk⟩ : ∃ n : Nat, IntKind.u64.wrap row % (nr : Int) = n := ⟨(IntKind.u64.wrap row % (nr : Int)).toNat, by omega⟩
 have f3 : IntKind.i64.wrap (k : Int) = k := qc (by omega) (by omega)
 have hside : qO (nr : Int) = true ∧ qO (nc : Int) = true := by
  unfold qO
  constructor
  ·rw [decide_eq_true (show 1 ≤ (nr : Int) by omega), decide_eq_true (show (nr : Int) ≤ 512 by omega)]; rfl
  ·rw [decide_eq_true (show 1 ≤ (nc : Int) by omega), decide_eq_true (show (nc : Int) ≤ 512 by omega)]; rfl
 have a1 := acj hside.1 hside.2
 have a2 := a0v (row := k) hls (show k < nr by omega) (show 2 ≤ nc by omega) hside hcs
 have ee : emE 0 0 0 0 0 (ZJ nr nc) = (0, 0, 0, 0, 0, 0, 0, 0, false) := rfl
 rw [ee] at a1
 unfold Qm
 simp only [q8, e1, e2, f1, f2, hnr, hnc]
 simp (disch := omega) only [q8, qn, qc, qg, qw, qm, u1, e3, hk, a1, a2]
open Go.Proofs
theorem aiw {n : Int} (h : CT.ok (.int .u8) n) : u8r n := by
 obtain ⟨h1, h2⟩ := h
 have e1 : IntKind.u8.min = 0 := by decide +kernel
 have e2 : IntKind.u8.max = 255 := by decide +kernel
 rw [e1] at h1
 rw [e2] at h2
 exact ⟨h1, Int.lt_of_le_of_lt h2 (by decide)⟩
theorem ahs {n : Int} (h : CT.ok (.int .i64) n) : yA n := by
 obtain ⟨h1, h2⟩ := h
 have e1 : IntKind.i64.min = -9223372036854775808 := by decide +kernel
 have e2 : IntKind.i64.max = 9223372036854775807 := by decide +kernel
 rw [e1] at h1
 rw [e2] at h2
 exact ⟨h1, Int.lt_of_le_of_lt h2 (by decide)⟩
theorem a47 (h : Heap) (vs : List Value) (hr : RVals Try.prog h 12 [3, 3, 3, 84, 85] vs) : ACalls Try.prog 7 vs h (fun v _ => v = .bool true) := by
 have ha : QG Try.prog 3 = false := by kernel_rfl
 have hb : QG Try.prog 84 = false := by kernel_rfl
 have hc : QG Try.prog 85 = false := by kernel_rfl
 refine adc (P := Try.prog) (f := 7) (av := .cons (.int .i64) (.cons (.int .i64) (.cons (.int .i64) (.cons (.sl (.int .u8)) (.sl (.int .i64)))))) (m := fun s => Qm s.1 s.2.1 s.2.2.1 s.2.2.2.1 s.2.2.2.2) ug 12 12 [3, 3, 3, 84, 85] [.int .i64, .int .i64, .int .i64, .sl (.int .u8), .sl (.int .i64)] (by kernel_rfl) (fun x => (x.1, x.2.1, x.2.2.1, x.2.2.2.1, x.2.2.2.2.1)) (fun x => ?_) (fun x hx => ?_) h vs hr
 ·simp only [a43, aaJ, ha, hb, hc]
  rfl
 ·obtain ⟨-, -, -, h4, h5, -⟩ := hx
  exact Vx (rows := x.1) (cols := x.2.1) (row := x.2.2.1) (fun b q => aiw (h4.2 b q)) (fun v q => ahs (h5.2 v q))
end Go.Sim
