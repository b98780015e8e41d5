/- Part 6 of the claim EmuDoes: T3, T4, T5, T6, T7, TY1, TY2, TY3, TY4, TY5, TY6, I5 -/
import Derived.Scope
import Derived.Test.YtaamhddpmbombaaGreatW5
import Derived.Test.YtaamhddpmbombaaGreatW4
set_option linter.unusedSimpArgs false
set_option linter.unusedVariables false
set_option linter.defProp false
noncomputable section
namespace Go.Sim
open Go.RowKit
def eL (L : List TO) : List Obj := L.map kQ
def kw (a : TFrm) : DFrm := ⟨a.n, a.c, a.l.map fun p => (p.1, enc p.2)⟩
def ZS (ρ : KM) : Y2 := fun x => (ρ x).map enc
theorem jI (t : Nat) : ∀ l : List (Nat × TV), zf t (l.map fun p => (p.1, enc p.2)) = (ZI t l).map enc
 | [] => rfl
 | (t', d) :: l => by
  simp only [List.map_cons, zf, ZI]
  split
  ·rfl
  ·exact jI t l
theorem WF (a : TFrm) (t : Option Nat) (d : TV) : kw (a.put t d) = (kw a).put t (enc d) := by
 cases t with
 | none => rfl
 | some t =>
  unfold TFrm.put DFrm.put kw
  simp only
  split <;> rfl
theorem ab3 (v : Value) : uy v = (aaQ v).map enc := by
 unfold uy aaQ
 split
 ·rfl
 ·cases v <;> try rfl
  simp only
  split <;> rfl
theorem al1 (a : TFrm) (x : Operand) : (kw a).ev x = (a.ev x).map enc := by
 cases x with
 | tmp t => exact jI t a.l
 | const v => exact ab3 v
 | func f => rfl
 | global g => rfl
theorem a2o (a : TFrm) : ZS a.ev = (kw a).ev := funext fun x => (al1 a x).symm
section
variable {ρ : KM}
theorem jj : ∀ xs : List Operand, Qp (ZS ρ) xs = (YM ρ xs).map (List.map enc)
 | [] => rfl
 | x :: r => by
  simp only [Qp, YM, jj r, ZS]
  cases ρ x <;> cases YM ρ r <;> rfl
theorem xd : ∀ xs : List (Nat × Operand), Kk (ZS ρ) xs = (a1P ρ xs).map (List.map fun p => (p.1, enc p.2))
 | [] => rfl
 | (i, x) :: r => by
  simp only [Kk, a1P, xd r, ZS]
  cases ρ x <;> cases a1P ρ r <;> rfl
end
theorem ZG {d : TV} (h : isC d = true) : enc d = qy d := by cases d <;> first | rfl | cases h
theorem aaz {o : Option TV} {d : TV} (h : agB o = some d) : o = some d ∧ isC d = true := by
 unfold agB at h
 first | (rw [qc] at h; split at h) | split at h
 ·first | (rw [qc] at h; split at h) | split at h
  ·rename_i h1; cases h; exact ⟨rfl, h1⟩
  ·cases h
 ·cases h
theorem QM {P : Program} {t : TypeId} {cs : List TV} {off : Nat} {d : TV} (h : J3 P t cs off = some d) : Qg P t (cs.map qy) off = some (enc d) := by
 unfold J3 at h
 unfold Qg
 first | (rw [qc] at h; split at h) | split at h
 ·cases h
 ·rename_i hu
  rw [hu]
  simp only
  first | (rw [qc] at h; split at h) | split at h
  ·rename_i ha
   rw [if_pos ha]
   first | (rw [qc] at h; split at h) | split at h
   ·rename_i n hn
    rw [hn]
    simp only [List.length_map]
    first | (rw [qc] at h; split at h) | split at h
    ·rename_i hl
     cases h
     rw [if_pos hl]
     simp [enc, zb, List.map_take, List.map_drop]
    ·cases h
   ·cases h
  ·rename_i ha
   rw [if_neg ha]
   obtain ⟨h1, h2⟩ := aaz h
   rw [List.getElem?_map, h1, ZG h2]; rfl
theorem Ky (d : TV) : is1 (enc d) = ZR d := by cases d <;> rfl
theorem Ke {d : TV} (h : ZR d = true) : zG (enc d) = (yd d).map qy := by cases d <;> first | rfl | cases h
theorem a25 : ∀ xs : List TV, Qk (xs.map qy) = xD xs
 | [] => rfl
 | x :: l => by
  simp only [List.map_cons, xD]
  cases x <;> first | rfl | (simp only [qy, zN, Qk, a25 l])
theorem QV (d : TV) : yc (enc d) = Xe d := by
 cases d <;> first | rfl | (simp only [enc, zb, yc, Xe, a25])
theorem aiI (o : Option Value) : scD o = (scT o).map enc := by
 unfold scD scT
 cases o with
 | none => rfl
 | some v => simp only; split <;> rfl
theorem YF {o : Option Value} {d : TV} (h : scT o = some d) : scD o = some (enc d) := by rw [aiI, h]; rfl
theorem u6 {d : TV} {x : Value} (h : a31 d = some x) : We (enc d) = some x := by
 cases d <;> first | exact h | cases h
theorem adk {P : Program} {op : BinOp} {t : TypeId} {a b d : TV} (h : afC P op t a b = some d) : ym P op t (enc a) (enc b) = some (enc d) := by
 unfold afC at h
 unfold ym
 rw [QV, QV]
 first | (rw [qc] at h; split at h) | split at h
 ·rename_i h1 h2; simp only [h1, h2]; exact YF h
 ·rename_i h1 h2
  simp only [h1, h2]
  first | (rw [qc] at h; split at h) | split at h
  ·rename_i hn
   rw [if_pos hn]
   first | (rw [qc] at h; split at h) | split at h
   ·rename_i x hx; rw [u6 hx]; exact YF h
   ·cases h
  ·cases h
 ·rename_i h1 h2
  simp only [h1, h2]
  first | (rw [qc] at h; split at h) | split at h
  ·rename_i hn
   rw [if_pos hn]
   first | (rw [qc] at h; split at h) | split at h
   ·rename_i x hx; rw [u6 hx]; exact YF h
   ·cases h
  ·cases h
 ·cases h
section
variable {R : Type} {P : Program} {K : TV → Tree R} {z : R}
def a4J (op : BinOp) (x y : TV) : Bool := match op, x, y with
 | .eql, .sl _ _, .v (.slice none 0 0) => true
 | .neq, .sl _ _, .v (.slice none 0 0) => true
 | _, _, _ => false
theorem afe {op : BinOp} {t : TypeId} {x y : TV} (hn : a4J op x y = false) (h : (ah6 P op t x y K).run = some z) : ∃ r, ym P op t (enc x) (enc y) = some (enc r) ∧ (K r).run = some z := by
 unfold ah6 at h
 split at h
 ·rename_i k a k' b
  split at h
  ·rename_i hk
   rw [qc] at h
   split at h
   ·rename_i hb
    refine ⟨_, ?_, h⟩
    simp [enc, zb, qy, zN, ym, yc, zk, zM, hk, ZW, hb, scD, scal, qL]
   ·cases h
  ·cases h
 ·rename_i k a k' b
  split at h
  ·rename_i hk
   rw [qc] at h
   split at h
   ·rename_i hb
    refine ⟨_, ?_, h⟩
    simp [enc, zb, qy, zN, ym, yc, zk, zM, hk, ZW, hb, scD, scal, qL]
   ·cases h
  ·cases h
 ·rename_i k a k' b
  rw [qc] at h
  split at h
  ·rename_i hb
   refine ⟨_, ?_, h⟩
   simp only [enc, zb, qy, zN, ym, yc, zk, zM, if_true, ZV, if_neg (Int.not_lt.2 hb)]
   rfl
  ·cases h
 ·rename_i k a k' b
  rw [qc] at h
  split at h
  ·rename_i hb
   refine ⟨_, ?_, h⟩
   simp only [enc, zb, qy, zN, ym, yc, zk, zM, if_true, ZV, if_neg (Int.not_lt.2 hb)]
   rfl
  ·cases h
 ·rename_i a b
  rw [qc] at h
  split at h
  ·rename_i hb
   refine ⟨_, ?_, h⟩
   simp only [enc, zb, qy, zN, ym, yc, zk, a1n, if_pos hb]
   rfl
  ·cases h
 ·cases hn
 ·cases hn
 ·obtain ⟨d, h1, h2⟩ := qa h
  exact ⟨d, adk h1, h2⟩
end
theorem Zw : ∀ (vs cs : List TV) (i : Nat), j6 (cs.map qy) i (vs.map qy) = (jH cs i vs).map qy
 | [], cs, i => rfl
 | v :: r, cs, i => by
  simp only [List.map_cons, j6, jH]
  rw [← Zw r, List.map_set]
theorem vf (P : Program) (t : TypeId) : Yj P t = (xW P t).map (List.map qy) := by
 unfold Yj xW
 cases za P t with
 | none => rfl
 | some z =>
  simp only
  split
  ·simp [Function.comp_def, qy, zN]
  ·rfl
theorem a6z {pl : Nat → Option (Nat × Nat)} : ∀ (ps : List (Nat × TV)) (cells out : List TV), a65 pl cells ps = some out → Yc pl (cells.map qy) (ps.map fun p => (p.1, enc p.2)) = some (out.map qy)
 | [], cells, out, h => by cases h; rfl
 | (i, v) :: r, cells, out, h => by
  unfold a65 at h
  simp only [List.map_cons, Yc]
  first | (rw [qc] at h; split at h) | split at h
  ·cases h
  ·rename_i off sz hp
   rw [hp]
   simp only
   first | (rw [qc] at h; split at h) | split at h
   ·rename_i hc
    have h1 := hc.1
    rw [Ke h1, Ky, List.length_map, List.length_map, if_pos hc, Zw]
    exact a6z r _ _ h
   ·cases h
theorem aax {P : Program} {t : TypeId} {ps : List (Nat × TV)} {d : TV} (h : a2v P t ps = some d) : Wu P t (ps.map fun p => (p.1, enc p.2)) = some (enc d) := by
 unfold a2v at h
 unfold Wu
 rw [vf]
 first | (rw [qc] at h; split at h) | split at h
 ·rename_i pl z h1 h2
  rw [h1, h2]
  simp only [Option.map_some]
  first | (rw [qc] at h; split at h) | split at h
  ·rename_i hz
   rw [if_pos hz]
   cases hf : a65 pl z ps with
   | none => rw [hf] at h; cases h
   | some out => rw [hf] at h; cases h; rw [a6z _ _ _ hf]; rfl
  ·cases h
 ·cases h
theorem a8j {P : Program} {t : TypeId} {x : TV} {f : Nat} {d : TV} (h : a3k P t x f = some d) : WY P t (enc x) f = some (enc d) := by
 unfold a3k at h
 unfold WY
 first | (rw [qc] at h; split at h) | split at h
 ·rename_i fs cs hu
  rw [hu]
  simp only [enc, zb]
  first | (rw [qc] at h; split at h) | split at h
  ·rename_i fd hf
   rw [hf]
   exact QM h
  ·cases h
 ·cases h
theorem zg {L : List TO} {id : Nat} {o : TO} (h : L[id]? = some o) : (eL L)[id]? = some (kQ o) := by
 unfold eL; rw [List.getElem?_map, h]; rfl
theorem ZM {L : List TO} {id tot : Nat} {c : CT} {e : TypeId} {loc : Bool} {xs : List c.T} (h : L[id]? = some (.li c e loc xs)) (ht : xs.length = tot) : zT (eL L) id tot = some (xs.map (qT c)) := by
 unfold zT; rw [zg h]; simp [kQ, ht]
theorem Qu {L : List TO} {id tot : Nat} {c : CT} {e : TypeId} {loc : Bool} {xs : List c.T} (h : L[id]? = some (.fz c e loc xs)) (ht : xs.length = tot) : zT (eL L) id tot = some (xs.map (qT c)) := by
 unfold zT; rw [zg h]; simp [kQ, ht]
theorem Vn {L : List TO} {id n tot : Nat} (h : VL L id = some n) (hn : n = tot) : ∃ rs, zT (eL L) id tot = some rs := by
 unfold VL at h
 first | (rw [qc] at h; split at h) | split at h
 ·rename_i h1; cases h; exact ⟨_, ZM h1 hn⟩
 ·rename_i h1; cases h; exact ⟨_, Qu h1 hn⟩
 ·cases h
section
variable {R : Type} {P : Program} {K : TV → Tree R} {z : R} {L : List TO}
theorem a3T {k : Nat} {x : TV} (h : (ton L k x K).run = some z) : ∃ r, onD (eL L) k (enc x) = some (enc r) ∧ (K r).run = some z := by
 unfold ton at h
 first | (rw [qc] at h; split at h) | split at h
 ·exact ⟨_, rfl, h⟩
 ·obtain ⟨n, h1, h2⟩ := qa h
  obtain ⟨h3, h4⟩ := kp h2
  obtain ⟨rs, hr⟩ := Vn h1 (h3 _ List.mem_cons_self)
  exact ⟨_, by simp [enc, zb, qy, zN, onD, hr], h4⟩
 ·exact ⟨_, rfl, h⟩
 ·cases h
theorem a39 {x : TV} {n : Int} (h : a0N x = some n) : ahJ (enc x) = some n := by
 unfold a0N at h
 first | (rw [qc] at h; split at h) | split at h
 ·cases h; rfl
 ·cases h
theorem XA {c : CT} {s id n tot m : Nat} (h : (aep c s id n tot m K).run = some z) : c.size = s ∧ n < tot ∧ m = tot ∧ (K (.ep id n 0 tot)).run = some z := by
 unfold aep at h
 first | (rw [qc] at h; split at h) | split at h
 ·rename_i h1
  first | (rw [qc] at h; split at h) | split at h
  ·rename_i h2; exact ⟨h1, h2.1, h2.2, h⟩
  ·cases h
 ·cases h
theorem ux {t : TypeId} {x i : TV} (h : (Zg P L t x i K).run = some z) : ∃ r, wR P (eL L) t (enc x) (enc i) = some (enc r) ∧ (K r).run = some z := by
 unfold Zg at h
 obtain ⟨n, hi, h⟩ := qa h
 unfold wR
 rw [a39 hi]
 simp only
 first | (rw [qc] at h; split at h) | split at h
 ·rename_i e hu
  obtain ⟨s, hs, h⟩ := qa h
  rw [hu]
  simp only [hs]
  have key : ∀ {tot : Nat} {c : CT} {xs : List c.T} {k : Nat}, c.size = s → k < tot → xs.length = tot → ∃ row, (xs.map (qT c))[k]? = some row ∧ row.length = s := by
   intro tot c xs k hc hk hl
   have hk' : k < xs.length := by omega
   exact ⟨qT c xs[k], by rw [List.getElem?_map, List.getElem?_eq_getElem hk']; rfl, by rw [kF, hc]⟩
  first | (rw [qc] at h; split at h) | split at h
  ·rename_i c xs
   first | (rw [qc] at h; split at h) | split at h
   ·rename_i hc
    first | (rw [qc] at h; split at h) | split at h
    ·rename_i h0
     obtain ⟨y, hy, h⟩ := kL h
     refine ⟨_, ?_, h⟩
     simp [enc, zb, qy, zN, h0, hc, List.getElem?_map, hy]
    ·cases h
   ·cases h
  ·rename_i id tot
   first | (rw [qc] at h; split at h) | split at h
   ·rename_i h0
    first | (rw [qc] at h; split at h) | split at h
    ·rename_i c e' loc xs hL
     obtain ⟨h1, h2, h3, h4⟩ := XA h
     have hr := ZM hL h3
     obtain ⟨row, q1, q2⟩ := key h1 h2 h3
     refine ⟨_, ?_, h4⟩
     simp only [enc, zb, qy, zN, if_pos h0, hr, if_pos h2, Nat.zero_add, q1, if_pos q2]
    ·rename_i c e' loc xs hL
     obtain ⟨h1, h2, h3, h4⟩ := XA h
     have hr := Qu hL h3
     obtain ⟨row, q1, q2⟩ := key h1 h2 h3
     refine ⟨_, ?_, h4⟩
     simp only [enc, zb, qy, zN, if_pos h0, hr, if_pos h2, Nat.zero_add, q1, if_pos q2]
    ·cases h
   ·cases h
  ·rename_i id lo m tot
   first | (rw [qc] at h; split at h) | split at h
   ·rename_i h0
    first | (rw [qc] at h; split at h) | split at h
    ·rename_i c e' loc xs hL
     obtain ⟨h1, h2, h3, h4⟩ := XA h
     have hr := ZM hL h3
     obtain ⟨row, q1, q2⟩ := key h1 h2 h3
     refine ⟨_, ?_, h4⟩
     simp only [enc, zb, qy, zN, if_pos h0.1, hr, if_pos h0.2, q1, if_pos q2]
    ·rename_i c e' loc xs hL
     obtain ⟨h1, h2, h3, h4⟩ := XA h
     have hr := Qu hL h3
     obtain ⟨row, q1, q2⟩ := key h1 h2 h3
     refine ⟨_, ?_, h4⟩
     simp only [enc, zb, qy, zN, if_pos h0.1, hr, if_pos h0.2, q1, if_pos q2]
    ·cases h
   ·cases h
  ·first | (rw [qc] at h; split at h) | split at h
   ·rename_i h0
    exact ⟨_, by simp only [enc, zb, qy, zN, if_pos h0.1, if_pos h0.2], h⟩
   ·cases h
  ·cases h
 ·rename_i len e hu
  obtain ⟨s, hs, h⟩ := qa h
  rw [hu]
  simp only [hs]
  first | (rw [qc] at h; split at h) | split at h
  ·rename_i h0
   rw [if_pos h0.1, if_pos h0.2]
   exact a3T h
  ·cases h
 ·cases h
theorem Wz {t : TypeId} {x : TV} (h : (a6D P L t x K).run = some z) : ∃ r, jT P (eL L) t (enc x) = some (enc r) ∧ (K r).run = some z := by
 unfold a6D at h
 first | (rw [qc] at h; split at h) | split at h
 ·first | (rw [qc] at h; split at h) | split at h
  ·rename_i cells hL
   obtain ⟨d, h1, h2⟩ := qa h
   refine ⟨d, ?_, h2⟩
   simp only [enc, zb, qy, zN, jT, zg hL, kQ]
   exact QM h1
  ·cases h
 ·rename_i id i off tot
  first | (rw [qc] at h; split at h) | split at h
  ·rename_i c e loc xs hL
   first | (rw [qc] at h; split at h) | split at h
   ·rename_i ht
    obtain ⟨y, hy, h⟩ := kL h
    obtain ⟨d, h1, h2⟩ := qa h
    refine ⟨d, ?_, h2⟩
    simp only [enc, zb, qy, zN, jT, ZM hL ht, List.getElem?_map, hy, Option.map_some]
    rw [← ZB]
    exact QM h1
   ·cases h
  ·rename_i c e loc xs hL
   first | (rw [qc] at h; split at h) | split at h
   ·rename_i ht
    obtain ⟨y, hy, h⟩ := kL h
    obtain ⟨d, h1, h2⟩ := qa h
    refine ⟨d, ?_, h2⟩
    simp only [enc, zb, qy, zN, jT, Qu hL ht, List.getElem?_map, hy, Option.map_some]
    rw [← ZB]
    exact QM h1
   ·cases h
  ·cases h
 ·obtain ⟨d, h1, h2⟩ := qa h
  refine ⟨d, ?_, h2⟩
  simp only [enc, zb, qy, zN, jT]
  rw [← ZB]
  exact QM h1
 ·cases h
end
open Go.RowKit
theorem zW (L : List TO) : (eL L).length = L.length := by simp [eL]
theorem QZ (L : List TO) (i : Nat) (o : TO) : eL (L.set i o) = (eL L).set i (kQ o) := by simp [eL, List.map_set]
theorem jN (L : List TO) (o : TO) : eL (L ++ [o]) = eL L ++ [kQ o] := by simp [eL]
theorem XC (c : CT) (xs : List c.T) : ((xs.map (qT c)).all fun r => r.length == c.size) = true := by
 rw [List.all_eq_true]; intro r hr
 obtain ⟨x, _, rfl⟩ := List.mem_map.1 hr
 simp [kF]
theorem VM : ∀ l : List UInt8, (l.map fun c => [PV.v (.int .u8 c.toNat)]) = List.map (qT (.int .u8)) (l.map fun c => ((c.toNat : Int) : CT.T (.int .u8)))
 | [] => rfl
 | c :: l => by
  have := VM l
  simp only [List.map_cons] at this ⊢
  rw [this]
  rfl
section
variable {R : Type} {P : Program} {z : R} {L : List TO}
theorem a2a {k : IntKind} : ∀ {l : List TV} {ys : List Int}, a6W k l = some ys → pvs (l.map qy) = some (ys.map fun n => PV.v (.int k n))
 | [], ys, h => by cases h; rfl
 | x :: r, ys, h => by
  unfold a6W at h
  split at h
  ·split at h
   ·rename_i hk
    subst hk
    cases hq : a6W _ r with
    | none => rw [hq] at h; cases h
    | some zs =>
     rw [hq] at h
     cases h
     show (pvs (r.map qy)).map _ = _
     rw [a2a hq]
     rfl
   ·cases h
  ·cases h
theorem QS {c : CT} {t : TypeId} {x : TV} {K : List c.T → Tree R} (h : (a6H P L c t x K).run = some z) : ∃ ys : List c.T, a4s P (eL L) c.size t (enc x) = some (ys.map (qT c)) ∧ (K ys).run = some z := by
 unfold a6H at h
 unfold a4s
 first | (rw [qc] at h; split at h) | split at h
 ·rename_i e hu
  rw [hu]
  simp only
  first | (rw [qc] at h; split at h) | split at h
  ·rename_i c' xs
   first | (rw [qc] at h; split at h) | split at h
   ·rename_i hc
    have := CT.of_eqb hc
    subst this
    exact ⟨xs, by simp [enc, zb, qy, zN], h⟩
   ·cases h
  ·exact ⟨[], rfl, h⟩
  ·rename_i id tot
   first | (rw [qc] at h; split at h) | split at h
   ·rename_i c' e' loc xs hL
    first | (rw [qc] at h; split at h) | split at h
    ·rename_i hc
     have := CT.of_eqb hc
     subst this
     replace h := kp h; obtain ⟨h1, h2⟩ := h
     have ht : xs.length = tot := h1 _ List.mem_cons_self
     refine ⟨xs, ?_, h2⟩
     simp only [enc, zb, qy, zN, ZM hL ht, XC, if_true, List.drop_zero]
     rw [List.take_of_length_le (by simp [ht])]
    ·cases h
   ·rename_i c' e' loc xs hL
    first | (rw [qc] at h; split at h) | split at h
    ·rename_i hc
     have := CT.of_eqb hc
     subst this
     replace h := kp h; obtain ⟨h1, h2⟩ := h
     have ht : xs.length = tot := h1 _ List.mem_cons_self
     refine ⟨xs, ?_, h2⟩
     simp only [enc, zb, qy, zN, Qu hL ht, XC, if_true, List.drop_zero]
     rw [List.take_of_length_le (by simp [ht])]
    ·cases h
   ·cases h
  ·rename_i id lo n tot
   first | (rw [qc] at h; split at h) | split at h
   ·rename_i c' e' loc xs hL
    first | (rw [qc] at h; split at h) | split at h
    ·rename_i hc
     have := CT.of_eqb hc
     subst this
     replace h := kp h; obtain ⟨h1, h2⟩ := h
     have ht : xs.length = tot := h1 _ List.mem_cons_self
     refine ⟨(xs.drop lo).take n, ?_, h2⟩
     simp only [enc, zb, qy, zN, ZM hL ht, XC, if_true, List.map_take, List.map_drop]
    ·cases h
   ·rename_i c' e' loc xs hL
    first | (rw [qc] at h; split at h) | split at h
    ·rename_i hc
     have := CT.of_eqb hc
     subst this
     replace h := kp h; obtain ⟨h1, h2⟩ := h
     have ht : xs.length = tot := h1 _ List.mem_cons_self
     refine ⟨(xs.drop lo).take n, ?_, h2⟩
     simp only [enc, zb, qy, zN, Qu hL ht, XC, if_true, List.map_take, List.map_drop]
    ·cases h
   ·cases h
  ·rename_i id off n
   split at h
   ·rename_i k K'
    split at h
    ·rename_i cells hL
     split at h
     ·rename_i hle
      replace h := qa h; obtain ⟨ys, h1, h2⟩ := h
      refine ⟨ys, ?_, h2⟩
      show (match (eL L)[id]? with
       | some (.st cells) => if (CT.int k).size = 1 ∧ off + n ≤ cells.length then (pvs ((cells.drop off).take n)).map fun l : List PV => l.map fun x => [x] else none
       | _ => none) = _
      rw [zg hL]
      show (if (CT.int k).size = 1 ∧ off + n ≤ (cells.map qy).length then (pvs (((cells.map qy).drop off).take n)).map fun l : List PV => l.map fun x => [x] else none) = _
      rw [if_pos ⟨rfl, by rw [List.length_map]; exact hle⟩, ← List.map_drop, ← List.map_take, a2a h1]
      simp only [Option.map_some, List.map_map]
      rfl
     ·cases h
    ·cases h
   ·cases h
  ·cases h
 ·rename_i hu
  rw [hu]
  simp only
  first | (rw [qc] at h; split at h) | split at h
  ·rename_i s
   first | (rw [qc] at h; split at h) | split at h
   ·rename_i hc
    have := CT.of_eqb hc
    subst this
    refine ⟨a3J s, ?_, h⟩
    show (if CT.size (.int .u8) = 1 then some _ else none) = _
    rw [if_pos (show CT.size (.int .u8) = 1 from rfl)]
    exact congrArg some (VM _)
   ·cases h
  ·cases h
 ·cases h
theorem a4d {n b : Nat} (h : n ≤ lim b) (hb : 0 < b) : n ≤ maxLen ∧ n * b ≤ 140737488355328 := by
 unfold lim at h
 have h1 := (Nat.le_div_iff_mul_le hb).1 h
 refine ⟨?_, h1⟩
 have h2 : n ≤ n * b := Nat.le_mul_of_pos_right n hb
 have : maxLen = 9223372036854775807 := rfl
 omega
theorem aln (loc : Bool) (e : TypeId) (n m : Nat) : (if m = 0 then eo loc e n else some e) = eo loc e (n + m) := by
 unfold eo
 cases loc
 ·by_cases hm : m = 0
  ·simp [hm]
  ·simp [hm]
 ·simp
theorem X4 {ty : TypeId → Option CT} {ts : List TypeId} {s x : TV} {K : TV → List TO → Tree R} (h : (Vf P ty ts L s x K).run = some z) : ∃ r L', Ka P ts (eL L) (enc s) (enc x) = some (enc r, eL L') ∧ (K r L').run = some z := by
 unfold Vf at h
 unfold Ka
 first | (rw [qc] at h; split at h) | split at h
 ·rename_i t t2
  first | (rw [qc] at h; split at h) | split at h
  ·rename_i e hu
   replace h := qa h; obtain ⟨i, hi, h⟩ := h
   replace h := qa h; obtain ⟨zc, hz, h⟩ := h
   replace h := qa h; obtain ⟨c, hc, h⟩ := h
   first | (rw [qc] at h; split at h) | split at h
   ·rename_i hsz
    replace h := QS h; obtain ⟨ys, hy, h⟩ := h
    have h0 : 0 < i.size := by rw [← hsz.1]; exact CT.size_pos c
    simp only [hu, hi, hz]
    rw [hsz.1] at hy
    simp only [hy]
    first | (rw [qc] at h; split at h) | split at h
    ·first | (rw [qc] at h; split at h) | split at h
     ·rename_i hl
      obtain ⟨l1, l2⟩ := a4d hl hsz.2
      refine ⟨_, _, ?_, h⟩
      simp only [enc, zb, qy, zN, List.length_map, zW]
      rw [if_pos ⟨h0, l1, l2⟩, jN]
      rfl
     ·cases h
    ·rename_i id tot
     first | (rw [qc] at h; split at h) | split at h
     ·rename_i c' e' loc xs hL
      first | (rw [qc] at h; split at h) | split at h
      ·rename_i he
       subst he
       first | (rw [qc] at h; split at h) | split at h
       ·rename_i hcc
        have := CT.of_eqb hcc
        subst this
        first | (rw [qc] at h; split at h) | split at h
        ·rename_i hl
         obtain ⟨l1, l2⟩ := a4d hl.2 hsz.2
         refine ⟨_, _, ?_, h⟩
         simp only [enc, zb, qy, zN, List.length_map, zg hL, kQ]
         have he : eo loc e' xs.length = none ∨ eo loc e' xs.length = some e' := by
          unfold eo; cases loc
          ·by_cases h0 : xs.length = 0 <;> simp [h0]
          ·exact .inr rfl
         have ht := hl.1
         subst ht
         rw [if_pos ⟨(by first | trivial | rfl), (by first | trivial | rfl), (by first | trivial | rfl), he, h0, l1, l2⟩, QZ, a1N]
         simp only [kQ, List.length_append, aln, List.map_append]
        ·cases h
       ·cases h
      ·cases h
     ·cases h
    ·cases h
   ·cases h
  ·cases h
 ·cases h
theorem Xu (k : IntKind) {n : Int} (h : 0 ≤ n) : jC (.int k n) = some n.toNat := by
 simp [jC, h]
def BdV (o : Option Int) (v : Option Value) : Prop := match o, v with
 | none, none => True
 | some n, some (.int _ m) => m = n
 | _, _ => False
theorem ZC {n : Nat} {lo hi : Option Int} {lv hv : Option Value} {K : Option Nat → Option Nat → Tree R} (hl : BdV lo lv) (hh : BdV hi hv) (h : (yU n lo hi K).run = some z) :
  ∃ l r, (K l r).run = some z ∧ qK n n lv hv none = some ((wF n l r).1, (wF n l r).1 + (wF n l r).2, none) ∧ (wF n l r).1 + (wF n l r).2 ≤ n ∧ ∀ {α : Type} (xs : List α), xs.length = n → ae2 xs l r = (xs.drop (wF n l r).1).take (wF n l r).2 := by
 unfold yU at h
 first | (rw [qc] at h; split at h) | split at h
 ·have : lv = none := by cases lv <;> first | rfl | exact hl.elim
  subst this
  have : hv = none := by cases hv <;> first | rfl | exact hh.elim
  subst this
  exact ⟨none, none, h, by simp [qK, wF], by simp [wF], fun xs hx => by simp [ae2, wF, ← hx]⟩
 ·rename_i b
  have : lv = none := by cases lv <;> first | rfl | exact hl.elim
  subst this
  obtain ⟨k, rfl⟩ : ∃ k, hv = some (.int k b) := by
   cases hv with
   | none => exact hh.elim
   | some v => cases v <;> first | (cases hh; exact ⟨_, rfl⟩) | exact hh.elim
  first | (rw [qc] at h; split at h) | split at h
  ·rename_i hc
   exact ⟨none, some b.toNat, h, by simp [qK, wF, Xu, hc.1, hc.2], by simp [wF, hc.2], fun xs hx => by simp [ae2, wF]⟩
  ·cases h
 ·rename_i a
  have : hv = none := by cases hv <;> first | rfl | exact hh.elim
  subst this
  obtain ⟨k, rfl⟩ : ∃ k, lv = some (.int k a) := by
   cases lv with
   | none => exact hl.elim
   | some v => cases v <;> first | (cases hl; exact ⟨_, rfl⟩) | exact hl.elim
  first | (rw [qc] at h; split at h) | split at h
  ·rename_i hc
   have := hc.2
   refine ⟨some a.toNat, none, h, ?_, by simp only [wF]; omega, fun xs hx => ?_⟩
   ·simp only [qK, wF, Xu _ hc.1, if_pos hc.2]
    rw [show a.toNat + (n - a.toNat) = n by omega]
   ·simp only [ae2, wF]; rw [List.take_of_length_le (by simp [hx])]
  ·cases h
 ·rename_i a b
  obtain ⟨k, rfl⟩ : ∃ k, lv = some (.int k a) := by
   cases lv with
   | none => exact hl.elim
   | some v => cases v <;> first | (cases hl; exact ⟨_, rfl⟩) | exact hl.elim
  obtain ⟨k', rfl⟩ : ∃ k, hv = some (.int k b) := by
   cases hv with
   | none => exact hh.elim
   | some v => cases v <;> first | (cases hh; exact ⟨_, rfl⟩) | exact hh.elim
  first | (rw [qc] at h; split at h) | split at h
  ·rename_i hc
   have h1 := hc.1
   have h2 := hc.2.1
   have h3 := hc.2.2
   refine ⟨some a.toNat, some b.toNat, h, ?_, by simp only [wF]; omega, fun xs hx => by simp only [ae2, wF]⟩
   simp only [qK, wF, Xu _ hc.1, Xu _ (show 0 ≤ b by omega), if_pos h3]
   rw [if_pos (by omega)]
   congr 2
   simp only [Prod.mk.injEq, and_true]; omega
  ·cases h
theorem aga {α : Type} (xs : List α) (a b : Nat) : (xs.drop a).take (a + b - a) = (xs.drop a).take b := by rw [Nat.add_sub_cancel_left]
theorem a8v {t : TypeId} {x : TV} {lo hi : Option Int} {lv hv : Option Value} {K : TV → Tree R} (hl : BdV lo lv) (hh : BdV hi hv) (h : (a9I P L t x lo hi K).run = some z) :
  ∃ r, wA P (eL L) t (enc x) lv hv none = some (enc r) ∧ (K r).run = some z := by
 unfold a9I at h
 unfold wA
 first | (rw [qc] at h; split at h) | split at h
 ·rename_i e hu
  replace h := qa h; obtain ⟨s, hs, h⟩ := h
  rw [hu]
  simp only [hs]
  have part : ∀ {id tot : Nat} {c : CT} {e' : TypeId} {loc : Bool} {xs : List c.T} {o : TO}, L[id]? = some o → (o = .li c e' loc xs ∨ o = .fz c e' loc xs) → c.size = s → e' = e → xs.length = tot → 0 < tot →
    (∃ rs, zT (eL L) id tot = some rs) ∧ (((eL L)[id]?).bind y9).bind (szT P) = some s := by
   intro id tot c e' loc xs o hL ho hc he ht h0
   subst he
   have hne : eo loc e' xs.length = some e' := by
    unfold eo; cases loc
    ·rw [if_neg (by decide), if_neg (by omega)]
    ·rfl
   rcases ho with rfl | rfl
   ·exact ⟨⟨_, ZM hL ht⟩, by rw [zg hL]; simp [kQ, y9, hne, hs]⟩
   ·exact ⟨⟨_, Qu hL ht⟩, by rw [zg hL]; simp [kQ, y9, hne, hs]⟩
  first | (rw [qc] at h; split at h) | split at h
  ·rename_i c xs
   first | (rw [qc] at h; split at h) | split at h
   ·rename_i hc
    replace h := ZC hl hh h; obtain ⟨l, r, hk, hb, hle, hcut⟩ := h
    refine ⟨_, ?_, hk⟩
    simp only [enc, zb, qy, zN, if_pos hc, List.length_map, hb, aga]
    rw [hcut xs rfl, List.map_take, List.map_drop]
   ·cases h
  ·replace h := ZC hl hh h; obtain ⟨l, r, hk, hb, hle, hcut⟩ := h
   refine ⟨_, ?_, hk⟩
   simp only [enc, zb, qy, zN, hb]
  ·rename_i id tot
   have fin : ∀ {c : CT} {e' : TypeId} {loc : Bool} {xs : List c.T} {o : TO}, L[id]? = some o → (o = .li c e' loc xs ∨ o = .fz c e' loc xs) →
     (if c.size = s ∧ e' = e then tif (0 < tot ∧ xs.length = tot) (yU tot lo hi fun l h => K (.part id (wF tot l h).1 (wF tot l h).2 tot)) else .fail).run = some z →
     ∃ r, (match zT (eL L) id tot with
      | some _ => if (((eL L)[id]?).bind y9).bind (szT P) = some s ∧ 0 < tot then match qK tot tot lv hv none with
        | some (l, r, _) => some (DV.ref id (0 + l) (r - l) tot)
        | none => none
       else none
      | none => none) = some (enc r) ∧ (K r).run = some z := by
    intro c e' loc xs o hL ho h
    first | (rw [qc] at h; split at h) | split at h
    ·rename_i h1
     first | (rw [qc] at h; split at h) | split at h
     ·rename_i h2
      obtain ⟨⟨rs, p1⟩, p2⟩ := part hL ho h1.1 h1.2 h2.2 h2.1
      replace h := ZC hl hh h; obtain ⟨l, r, hk, hb, hle, hcut⟩ := h
      refine ⟨_, ?_, hk⟩
      simp only [p1, p2, true_and, if_pos h2.1, hb, enc, zb, qy, zN, Nat.zero_add, Nat.add_sub_cancel_left]
     ·cases h
    ·cases h
   first | (rw [qc] at h; split at h) | split at h
   ·rename_i hL
    exact fin hL (.inl rfl) h
   ·rename_i hL
    exact fin hL (.inr rfl) h
   ·cases h
  ·rename_i id a n tot
   have fin : ∀ {c : CT} {e' : TypeId} {loc : Bool} {xs : List c.T} {o : TO}, L[id]? = some o → (o = .li c e' loc xs ∨ o = .fz c e' loc xs) →
     (if c.size = s ∧ e' = e then tif (0 < n ∧ xs.length = tot ∧ 0 < tot) (yU n lo hi fun l h => K (.part id (a + (wF n l h).1) (wF n l h).2 tot)) else .fail).run = some z →
     ∃ r, (match zT (eL L) id tot with
      | some _ => if (((eL L)[id]?).bind y9).bind (szT P) = some s ∧ 0 < n then match qK n n lv hv none with
        | some (l, r, _) => some (DV.ref id (a + l) (r - l) tot)
        | none => none
       else none
      | none => none) = some (enc r) ∧ (K r).run = some z := by
    intro c e' loc xs o hL ho h
    first | (rw [qc] at h; split at h) | split at h
    ·rename_i h1
     first | (rw [qc] at h; split at h) | split at h
     ·rename_i h2
      obtain ⟨⟨rs, p1⟩, p2⟩ := part hL ho h1.1 h1.2 h2.2.1 h2.2.2
      replace h := ZC hl hh h; obtain ⟨l, r, hk, hb, hle, hcut⟩ := h
      refine ⟨_, ?_, hk⟩
      simp only [p1, p2, true_and, if_pos h2.1, hb, enc, zb, qy, zN, Nat.add_sub_cancel_left]
     ·cases h
    ·cases h
   first | (rw [qc] at h; split at h) | split at h
   ·rename_i hL
    exact fin hL (.inl rfl) h
   ·rename_i hL
    exact fin hL (.inr rfl) h
   ·cases h
  ·cases h
 ·cases h
theorem a1O {t : TypeId} {x : TV} {K : TV → Tree R} (h : (abw P L t x K).run = some z) : ∃ r, Ue P (eL L) t (enc x) = some (enc r) ∧ (K r).run = some z := by
 unfold abw at h
 unfold Ue
 first | (rw [qc] at h; split at h) | split at h
 ·rename_i hu
  rw [hu]
  simp only
  first | (rw [qc] at h; split at h) | split at h
  ·exact ⟨_, by simp only [enc, zb, qy, zN, List.length_map], h⟩
  ·exact ⟨_, rfl, h⟩
  ·rename_i id tot
   replace h := qa h; obtain ⟨n, h1, h2⟩ := h
   replace h2 := kp h2; obtain ⟨h3, h4⟩ := h2
   obtain ⟨rs, hr⟩ := Vn h1 (h3 _ List.mem_cons_self)
   exact ⟨_, by simp only [enc, zb, qy, zN, hr], h4⟩
  ·rename_i id lo m tot
   replace h := qa h; obtain ⟨n, h1, h2⟩ := h
   replace h2 := kp h2; obtain ⟨h3, h4⟩ := h2
   obtain ⟨rs, hr⟩ := Vn h1 (h3 _ List.mem_cons_self)
   exact ⟨_, by simp only [enc, zb, qy, zN, hr], h4⟩
  ·exact ⟨_, rfl, h⟩
  ·cases h
 ·rename_i hu
  rw [hu]
  simp only
  first | (rw [qc] at h; split at h) | split at h
  ·exact ⟨_, rfl, h⟩
  ·cases h
 ·rename_i hu
  rw [hu]
  simp only
  first | (rw [qc] at h; split at h) | split at h
  ·exact ⟨_, rfl, h⟩
  ·cases h
 ·cases h
theorem a6I : ∀ xs : List (CT.T (.int .u8)), xA (xs.map (qT (.int .u8))) = some xs
 | [] => rfl
 | x :: l => by
  have := a6I l
  simp only [List.map_cons]
  show (xA (List.map (qT (.int .u8)) l)).map _ = _
  rw [this]
  rfl
theorem aem {s d : TypeId} {x : TV} {K : TV → List TO → Tree R} (h : (aeY P L s d x K).run = some z) : ∃ r L', VR P (eL L) s d (enc x) = some (enc r, eL L') ∧ (K r L').run = some z := by
 unfold aeY at h
 unfold VR
 first | (rw [qc] at h; split at h) | split at h
 ·rename_i e hu hd
  rw [hu, hd]
  simp only
  first | (rw [qc] at h; split at h) | split at h
  ·rename_i hb
   replace h := QS h; obtain ⟨ys, hy, h⟩ := h
   refine ⟨_, L, ?_, h⟩
   rw [if_pos hb]
   rw [show (1 : Nat) = CT.size (.int .u8) from rfl, hy]
   simp only [Option.bind_some, a6I]
   rfl
  ·cases h
 ·rename_i e hu hd
  rw [hu, hd]
  simp only
  first | (rw [qc] at h; split at h) | split at h
  ·rename_i t
   first | (rw [qc] at h; split at h) | split at h
   ·rename_i hb
    first | (rw [qc] at h; split at h) | split at h
    ·rename_i hl
     refine ⟨_, _, ?_, h⟩
     simp only [enc, zb, qy, zN]
     rw [if_pos ⟨hb.1, hb.2, hl⟩, jN, zW]
     unfold a3J
     simp only [kQ, eo, if_true]
     rw [VM]
    ·cases h
   ·cases h
  ·cases h
 ·rename_i e' e hu hd
  rw [hu, hd]
  simp only
  split at h
  ·rename_i id tot
   split at h
   ·rename_i hb
    split at h
    ·rename_i c te loc xs hL
     rw [qc] at h
     split at h
     ·rename_i hc
      refine ⟨_, _, ?_, h⟩
      have he : eo loc te xs.length = some te := by
       unfold eo; cases loc
       ·rw [if_neg (by decide), if_neg (by omega)]
       ·rfl
      show (if s = d ∧ Qz P e = true ∧ 0 < tot ∧ 0 < tot then _ else _) = _
      rw [if_pos ⟨hb.1, hb.2, hc.1, hc.1⟩, zg hL]
      show (match some (Obj.li (eo loc te xs.length) (xs.map (qT c))) with
       | some (Obj.li (some _) rows) => if rows.length = tot then some (DV.ref id 0 tot tot, eL L) else none
       | _ => none) = _
      rw [he]
      simp only [List.length_map, if_pos hc.2]
      rfl
     ·cases h
    ·cases h
   ·cases h
  ·cases h
 ·rename_i n1 n2 n3
  first | (rw [qc] at h; split at h) | split at h
  ·rename_i v hv
   replace h := qa h; obtain ⟨r, h1, h2⟩ := h
   refine ⟨r, L, ?_, h2⟩
   rw [← QV] at hv
   split
   ·rename_i a b; exact absurd b (n1 _ a)
   ·rename_i a b; exact absurd b (n2 _ a)
   ·rename_i a b; exact absurd b (n3 _ _ a)
   ·rw [hv]; simp only [YF h1, Option.map_some]
  ·cases h
theorem a6t {ty : TypeId → Option CT} {t : TypeId} {x i : TV} {K : TV → Tree R} (h : (XE P ty t x i K).run = some z) : ∃ r, WT P t (enc x) (enc i) = some (enc r) ∧ (K r).run = some z := by
 unfold XE at h
 first | (rw [qc] at h; split at h) | split at h
 ·rename_i len e cs n hu hi
  first | (rw [qc] at h; split at h) | split at h
  ·rename_i s hs
   first | (rw [qc] at h; split at h) | split at h
   ·rename_i hc
    replace h := qa h; obtain ⟨d, h1, h2⟩ := h
    refine ⟨d, ?_, h2⟩
    unfold WT
    rw [hu, a39 hi]
    simp only [enc, zb, hs, if_pos hc]
    exact QM h1
   ·cases h
  ·cases h
 ·rename_i s n hu hi
  first | (rw [qc] at h; split at h) | split at h
  ·rename_i hc
   replace h := kL h; obtain ⟨b, h1, h2⟩ := h
   refine ⟨_, ?_, h2⟩
   unfold WT
   rw [hu, a39 hi]
   simp only [enc, zb, qy, zN, if_pos hc, h1, Option.map_some]
   rfl
  ·cases h
 ·cases h
theorem a2q {x d : TV} {i : Nat} (h : xl x i = some d) : QN (enc x) i = some (enc d) := by
 unfold xl at h
 first | (rw [qc] at h; split at h) | split at h
 ·rename_i xs
  first | (rw [qc] at h; split at h) | split at h
  ·rename_i d' hd
   first | (rw [qc] at h; split at h) | split at h
   ·rename_i h1
    cases h
    simp only [enc, QN, List.getElem?_map, hd, Option.map_some]
    congr 1
    cases d <;> first | rfl | cases h1
   ·cases h
  ·cases h
 ·cases h
theorem v6 : ∀ (ds : List TV), yJ (ds.map enc) = Y0 ds
 | [] => rfl
 | d :: l => by
  simp only [List.map_cons, yJ, Y0, QV, v6 l]
  cases Xe d <;> cases Y0 l <;> rfl
theorem a6r {d : TV} (h : V8 d = true) : Jp (enc d) = true ∧ enc d = zN d := by cases d <;> first | exact ⟨rfl, rfl⟩ | cases h
theorem yN : ∀ {ds : List TV}, ds.all V8 = true → (ds.map enc).all Jp = true ∧ ds.map enc = ds.map zN
 | [], _ => ⟨rfl, rfl⟩
 | d :: l, h => by
  simp only [List.all_cons, Bool.and_eq_true] at h
  obtain ⟨h1, h2⟩ := yN h.2
  refine ⟨?_, ?_⟩
  ·rw [List.map_cons, List.all_cons, h1, (a6r h.1).1]; rfl
  ·rw [List.map_cons, List.map_cons, h2, (a6r h.1).2]
theorem ae6 {f : Fn} {a b : Option (List TV)} {d : TV} (h : aaK f a b = some d) : Vx f (a.map (List.map enc)) (b.map (List.map enc)) = some (enc d) := by
 unfold aaK at h
 first | (rw [qc] at h; split at h) | split at h
 ·rename_i k a b
  first | (rw [qc] at h; split at h) | split at h
  ·rename_i hb
   simp only [Bool.and_eq_true] at hb
   cases h
   obtain ⟨h1, h2⟩ := yN hb.1
   obtain ⟨h3, h4⟩ := yN hb.2
   simp only [Option.map_some, Vx, h1, h3, Bool.and_self, if_true, enc, zb, qy]
   rw [h2, h4]
  ·cases h
 ·cases h
end
open Go.RowKit
section
variable {P : Program} {γ : Pl} {L : List Obj} {h : Heap} {h0 : Heap} {W0 : Ent}
theorem VX (H : Hp P h0 W0 γ L h) {id : Nat} {e : Option TypeId} {rows : List (List PV)} (hi : L[id]? = some (.li e rows)) : Hp P h0 W0 γ (L.set id (.fz e rows)) h ∧ Carry W0 γ L h γ (L.set id (.fz e rows)) h := by
 have hget : ∀ b', b' < h.next → (∀ x, γ id ≠ some (b', x)) → h.get b' = h.get b' := fun _ _ _ => rfl
 have hd : (Obj.li e rows).owns = true ∨ γ id = none := by
  cases e with
  | none => exact .inr (H.obj id _ hi).2
  | some _ => exact .inl rfl
 have c := wM (W0 := W0) (h := h) (γ := γ) (γ' := γ) (h' := h) (o' := .fz e rows) hi hd (fun _ _ => rfl) (fun c e => (by cases e)) (fun r' hl' => ⟨rows, rfl, by cases hl'; exact Nat.le_refl _, fun _ => ⟨rfl, fun z hz => by cases hl'; exact hz⟩⟩) (Nat.le_refl _) (fun b x e d => by cases d) hget
 refine ⟨H.write hi hd c (fun _ _ => rfl) (Nat.le_refl _) (fun b x e => .inl ⟨x, e⟩) (fun x e => H.dom _ _ e) hget ?_, c⟩
 have ho := H.obj id _ hi
 cases e with
 | none => exact ho
 | some te =>
  obtain ⟨b, q, g1, g2⟩ := ho
  refine ⟨b, q, g1, ⟨?_, H.allowed hi rfl g1, fun j oj x hj hdj hg => ?_⟩, c.rows rfl g2⟩
  ·obtain ⟨cs, z, a1, _⟩ := g2
   exact h.wf _ _ a1
  ·rcases getElem?_set' hj with ⟨hne, hj⟩ | ⟨rfl, _, rfl⟩
   ·exact hne (H.inj j id oj _ b x q hj hi hdj rfl hg g1)
   ·cases hdj
theorem a2M (H : Hp P h0 W0 γ L h) {id : Nat} {e : Option TypeId} {rows rows' : List (List PV)} (hi : L[id]? = some (.li e rows)) (hw : K8 rows' rows) : Hp P h0 W0 γ (L.set id (.li e rows')) h ∧ Carry W0 γ L h γ (L.set id (.li e rows')) h := by
 have hget : ∀ b', b' < h.next → (∀ x, γ id ≠ some (b', x)) → h.get b' = h.get b' := fun _ _ _ => rfl
 have hd : (Obj.li e rows).owns = true ∨ γ id = none := by
  cases e with
  | none => exact .inr (H.obj id _ hi).2
  | some _ => exact .inl rfl
 have c := wM (W0 := W0) (h := h) (γ := γ) (γ' := γ) (h' := h) (o' := .li e rows') hi hd (fun _ _ => rfl) (fun c e => (by cases e)) (fun r' hl' => ⟨rows, rfl, by cases hl'; exact Nat.le_of_eq (Kg hw).symm, fun _ => ⟨rfl, fun z hz => by cases hl'; exact xo hw hz⟩⟩) (Nat.le_refl _) (fun b x e d => .inl e) hget
 refine ⟨H.write hi hd c (fun _ _ => rfl) (Nat.le_refl _) (fun b x e => .inl ⟨x, e⟩) (fun x e => H.dom _ _ e) hget ?_, c⟩
 have ho := H.obj id _ hi
 cases e with
 | none => exact ⟨WL hw ho.1, ho.2⟩
 | some te =>
  obtain ⟨b, q, g1, g2⟩ := ho
  exact ⟨b, q, g1, c.rows rfl (Rows.of_w hw g2)⟩
theorem a2P (H : Hp P h0 W0 γ L h) {id tot z : Nat} {e : Option TypeId} {rows : List (List PV)} {v : Value} (hi : L[id]? = some (.fz e rows)) (ht : rows.length = tot) (hz : ∀ te, e = some te → szT P te = some z)
  (hd : DC P (qe W0 γ L h) γ L h (.ref id 0 tot tot) v) : DC P (qe W0 γ L h) γ L h (.p (.sl z rows)) v := by
 have hd' : DB P (qe W0 γ L h) γ L h (.ref id 0 tot tot) v := hd
 obtain ⟨k1, k2, k3⟩ := hd'
 obtain ⟨_, k5⟩ := k3 _ rows hi rfl
 obtain ⟨_, k7⟩ := k5 ht
 have ho := H.obj id _ hi
 show PR P (qe W0 γ L h) h (.sl z rows) v
 cases e with
 | none =>
  obtain ⟨rfl, hg⟩ := ho
  rcases k7 z (fun r hr => by simp at hr) with ⟨rfl | ⟨b, o, rfl⟩, _, _⟩ | ⟨b, o, c, rfl, h1, h2⟩ | ⟨b, o, c, g, _⟩
  ·exact .nil
  ·exact .zero
  ·omega
  ·rw [hg] at g; cases g
 | some te =>
  obtain ⟨b, o, g1, g2, cs, z1, a1, a2, a3, a4, a5, a6, a7⟩ := ho
  have : z = z1 := by have := hz te rfl; rw [a2] at this; cases this; rfl
  subst this
  rcases k7 z a6 with ⟨_, _, hg⟩ | ⟨b, o, c, rfl, h1, h2⟩ | ⟨b', o', c, g, rfl, d1, d2, d3⟩
  ·rw [g1] at hg; cases hg
  ·omega
  ·rw [g1] at g; cases g
   subst ht
   simp only [Nat.zero_mul, Nat.add_zero]
   exact .sl g2 a1 a3 a4 (fun i r hr => a6 r (List.mem_of_getElem? hr)) (fun i r j x u e1 e2 e3 => a7 i r j x u e1 e2 e3) (.inr ⟨rfl, a2, d3⟩) a5
end
section
variable {P : Program} {γ : Pl} {L : List TO} {h : Heap} {h0 : Heap} {W0 : Ent}
theorem UH {loc : Bool} {e : TypeId} {n z : Nat} (h : szT P e = some z) : ∀ te, eo loc e n = some te → szT P te = some z := by
 intro te ht
 unfold eo at ht
 split at ht
 ·cases ht; exact h
 ·split at ht
  ·cases ht
  ·cases ht; exact h
def FrzOk (P : Program) (h0 : Heap) (W0 : Ent) (γ : Pl) (L : List TO) (h : Heap) (L' : List TO) : Prop := Hp P h0 W0 γ (eL L') h ∧ Carry W0 γ (eL L) h γ (eL L') h
theorem YQ (H : Hp P h0 W0 γ (eL L) h) {x : TV} {v : Value} (hd : DC P (qe W0 γ (eL L) h) γ (eL L) h (qy x) v) {x' : TV} {L' : List TO} {q : List (Nat × Nat)} (e : a5o P L x = (x', L', q)) (hq : ∀ p ∈ q, p.1 = p.2) :
  FrzOk P h0 W0 γ L h L' ∧ DC P (qe W0 γ (eL L') h) γ (eL L') h (qy x') v := by
 have same : ∀ {x'' : TV}, (x, L, ([] : List (Nat × Nat))) = (x', L', q) → FrzOk P h0 W0 γ L h L' ∧ DC P (qe W0 γ (eL L') h) γ (eL L') h (qy x') v := by
  intro _ e; cases e; exact ⟨⟨H, Carry.refl _ _ _⟩, hd⟩
 unfold a5o at e
 split at e
 ·rename_i id tot
  split at e
  ·rename_i c te loc xs hL
   split at e
   ·rename_i hs
    cases e
    have ht : xs.length = tot := hq _ List.mem_cons_self
    have hi : (eL L)[id]? = some (.li (eo loc te xs.length) (xs.map (qT c))) := zg hL
    obtain ⟨H', c'⟩ := VX H hi
    rw [show (eL L).set id (.fz (eo loc te xs.length) (xs.map (qT c))) = eL (L.set id (.fz c te loc xs)) from (QZ L id (.fz c te loc xs)).symm] at H' c'
    refine ⟨⟨H', c'⟩, ?_⟩
    have hlt : id < L.length := (List.getElem?_eq_some_iff.1 hL).1
    exact a2P H' (e := eo loc te xs.length) (rows := xs.map (qT c)) (zg (by rw [List.getElem?_set_self hlt])) (by simpa using ht) (UH hs) (c'.dc hd)
   ·exact same (x'' := .ref id tot) e
  ·rename_i c te loc xs hL
   split at e
   ·rename_i hs
    cases e
    have ht : xs.length = tot := hq _ List.mem_cons_self
    refine ⟨⟨H, Carry.refl _ _ _⟩, ?_⟩
    exact a2P H (e := eo loc te xs.length) (rows := xs.map (qT c)) (zg hL) (by simpa using ht) (UH hs) hd
   ·exact same (x'' := .ref id tot) e
  ·exact same (x'' := .ref id tot) e
 ·exact same (x'' := x) e
theorem Carry.trans' {L1 L2 L3 : List Obj} {h1 h2 h3 : Heap} {γ1 γ2 γ3 : Pl} (c : Carry W0 γ1 L1 h1 γ2 L2 h2) (c2 : Carry W0 γ2 L2 h2 γ3 L3 h3) : Carry W0 γ1 L1 h1 γ3 L3 h3 :=
 ⟨fun b hb => ⟨(c2.free b (c.free b hb).1).1, (c2.free b (c.free b hb).1).2.trans (c.free b hb).2⟩, Nat.le_trans c.len c2.len, fun i b e hs => by
   obtain ⟨a1, a2⟩ := c.st i b e hs
   exact c2.st i b a1 a2, fun i b e hs => by
   obtain ⟨a1, a2⟩ := c.mp i b e hs
   exact c2.mp i b a1 a2, fun i o' rows' hi' e' hl' => by
   obtain ⟨o1, r1, b1, b2, b3, b4⟩ := c2.li i o' rows' (Nat.lt_of_lt_of_le hi' c.len) e' hl'
   obtain ⟨o2, r2, c1, c2', c3, c4⟩ := c.li i o1 r1 hi' b1 b2
   refine ⟨o2, r2, c1, c2', Nat.le_trans c3 b3, fun e5 => ?_⟩
   obtain ⟨d1, d2⟩ := b4 (by omega)
   obtain ⟨d3, d4⟩ := c4 (by omega)
   exact ⟨d1.trans d3, fun z hz => d4 z (d2 z hz)⟩⟩
theorem xr : ∀ {L : List TO} {xs : List TV} {vs : List Value} {xs' : List TV} {L' : List TO} {q : List (Nat × Nat)}, Hp P h0 W0 γ (eL L) h → All2 (DC P (qe W0 γ (eL L) h) γ (eL L) h) (xs.map qy) vs → a1z P L xs = (xs', L', q) → (∀ p ∈ q, p.1 = p.2) →
  FrzOk P h0 W0 γ L h L' ∧ All2 (DC P (qe W0 γ (eL L') h) γ (eL L') h) (xs'.map qy) vs
 | L, [], vs, xs', L', q, H, hd, e, hq => by
  cases e
  exact ⟨⟨H, Carry.refl _ _ _⟩, hd⟩
 | L, x :: l, vs, xs', L', q, H, hd, e, hq => by
  cases hd with
  | cons hx ht =>
   unfold a1z at e
   cases h1 : a5o P L x with
   | mk x1 r1 =>
    obtain ⟨L1, q1⟩ := r1
    cases h2 : a1z P L1 l with
    | mk l2 r2 =>
     obtain ⟨L2, q2⟩ := r2
     simp only [h1, h2] at e
     cases e
     obtain ⟨⟨H1, c1⟩, d1⟩ := YQ H hx h1 fun p hp => hq p (by simp [hp])
     obtain ⟨⟨H2, c2⟩, d2⟩ := xr H1 (ht.mono fun _ _ => c1.dc) h2 fun p hp => hq p (by simp [hp])
     exact ⟨⟨H2, c1.trans' c2⟩, .cons (c2.dc d1) d2⟩
theorem YH {L : List TO} (H : Hp P h0 W0 γ (eL L) h) {x : TV} {v : Value} (hd : DR P (qe W0 γ (eL L) h) γ (eL L) h (enc x) v) {x' : TV} {L' : List TO} {q : List (Nat × Nat)} (e : a9P P L x = (x', L', q)) (hq : ∀ p ∈ q, p.1 = p.2) :
  FrzOk P h0 W0 γ L h L' ∧ DR P (qe W0 γ (eL L') h) γ (eL L') h (enc x') v := by
 unfold a9P at e
 split at e
 ·rename_i xs
  cases h1 : a1z P L xs with
  | mk l2 r2 =>
   obtain ⟨L2, q2⟩ := r2
   simp only [h1] at e
   cases e
   obtain ⟨vs, rfl, hv⟩ := hd
   obtain ⟨a1, a2⟩ := xr H hv h1 hq
   exact ⟨a1, vs, rfl, a2⟩
 ·rename_i hn
  by_cases hc : isC x = true
  ·have hx : DC P (qe W0 γ (eL L) h) γ (eL L) h (qy x) v := by
    rw [ZG hc] at hd
    cases x <;> first | exact hd | cases hc
   obtain ⟨a1, a2⟩ := YQ H hx e hq
   have hc' : isC x' = true := by
    unfold a5o at e
    split at e
    ·split at e
     ·split at e <;> (cases e; rfl)
     ·split at e <;> (cases e; rfl)
     ·cases e; rfl
    ·cases e; exact hc
   refine ⟨a1, ?_⟩
   rw [ZG hc']
   cases x' <;> first | exact a2 | cases hc'
  ·cases x with
   | agg xs => exact absurd rfl (hn xs)
   | tup xs => cases e; exact ⟨⟨H, Carry.refl _ _ _⟩, hd⟩
   | _ => exact absurd rfl hc
theorem xT : ∀ {L : List TO} {xs : List (Nat × TV)} {vs : List (Nat × Value)} {xs' : List (Nat × TV)} {L' : List TO} {q : List (Nat × Nat)}, Hp P h0 W0 γ (eL L) h → All2 (fun d v => d.1 = v.1 ∧ DR P (qe W0 γ (eL L) h) γ (eL L) h d.2 v.2) (xs.map fun p => (p.1, enc p.2)) vs → a29 P L xs = (xs', L', q) → (∀ p ∈ q, p.1 = p.2) →
  FrzOk P h0 W0 γ L h L' ∧ All2 (fun d v => d.1 = v.1 ∧ DR P (qe W0 γ (eL L') h) γ (eL L') h d.2 v.2) (xs'.map fun p => (p.1, enc p.2)) vs
 | L, [], vs, xs', L', q, H, hd, e, hq => by
  cases e
  exact ⟨⟨H, Carry.refl _ _ _⟩, hd⟩
 | L, (i, x) :: l, vs, xs', L', q, H, hd, e, hq => by
  cases hd with
  | cons hx ht =>
   unfold a29 at e
   cases h1 : a9P P L x with
   | mk x1 r1 =>
    obtain ⟨L1, q1⟩ := r1
    cases h2 : a29 P L1 l with
    | mk l2 r2 =>
     obtain ⟨L2, q2⟩ := r2
     simp only [h1, h2] at e
     cases e
     obtain ⟨⟨H1, c1⟩, d1⟩ := YH H hx.2 h1 fun p hp => hq p (by simp [hp])
     obtain ⟨⟨H2, c2⟩, d2⟩ := xT H1 (ht.mono fun _ _ hh => ⟨hh.1, c1.dr hh.2⟩) h2 fun p hp => hq p (by simp [hp])
     exact ⟨⟨H2, c1.trans' c2⟩, .cons ⟨hx.1, c2.dr d1⟩ d2⟩
end
open Go.RowKit
theorem aja (id off : Nat) : enc (.ptr id off) = .ptr id off := rfl
theorem akj (id i off tot : Nat) : enc (.ep id i off tot) = .ep id i off tot := rfl
theorem UG {z : List PV} {c : CT} {x : c.T} (h : All2 unP (qT c x) z) : ∀ n : Nat, All2 (All2 unP) (List.replicate n (qT c x)) (List.replicate n z)
 | 0 => .nil
 | n + 1 => .cons h (UG h n)
section
variable {R : Type}
def KT (K : TV → List TO → Tree R) (z : R) : DV → List Obj → Prop := fun d L' => ∃ td tL, d = enc td ∧ L' = eL tL ∧ (K td tL).run = some z
def Jf (P : Program) (h0 : Heap) (W0 : Ent) (γ : Pl) (L : List TO) (h : Heap) (K : TV → List TO → Tree R) (z : R) (v : Value) (h' : Heap) : Prop :=
 ∃ γ' d L', (K d L').run = some z ∧ Hp P h0 W0 γ' (eL L') h' ∧ Carry W0 γ (eL L) h γ' (eL L') h' ∧ DR P (qe W0 γ' (eL L') h') γ' (eL L') h' (enc d) v
variable {P : Program} {γ : Pl} {L : List TO} {h : Heap} {h0 : Heap} {W0 : Ent} {z : R} {K : TV → List TO → Tree R}
theorem agu {v : Value} {h' : Heap} (q : Aft P h0 W0 γ (eL L) h (KT K z) v h') : Jf P h0 W0 γ L h K z v h' := by
 obtain ⟨γ', d, L', ⟨td, tL, rfl, rfl, hk⟩, a, b, c⟩ := q
 exact ⟨γ', td, tL, hk, a, b, c⟩
abbrev TWr := FuncId → List TV → List TO → List Nat
def VKept (γ : Pl) (L : List TO) (h h' : Heap) (ids : List Nat) : Prop := ∀ id b, γ id = some (b, 0) → (∃ c, (eL L)[id]? = some (.st c)) → id ∉ ids → h'.get b = h.get b
def TCallOk (P : Program) (call : yt R) (wr : TWr) : Prop := ∀ k ds L K z, (call k ds L K).run = some z → ∀ h0 W0 γ h vs, Hp P h0 W0 γ (eL L) h → All2 (DR P (qe W0 γ (eL L) h) γ (eL L) h) (ds.map enc) vs →
 ADoes P k vs h (fun v h' => Aft P h0 W0 γ (eL L) h (KT K z) v h' ∧ VKept γ L h h' (wr k ds L))
theorem TCallOk.weak {call : yt R} {wr : TWr} (h : TCallOk P call wr) {k : FuncId} {ds : List TV} (hz : (call k ds L K).run = some z) : ud P k (ds.map enc) (eL L) (KT K z) := fun h0 W0 γ hh vs H hr => (h k ds L K z hz h0 W0 γ hh vs H hr).mono fun _ _ q => q.1
theorem a3R {ρ : KM} {x : Option Operand} {n : Option Int} (h : a0y ρ x = some n) : ∃ v, Xc (ZS ρ) x = some v ∧ BdV n v := by
 unfold a0y at h
 unfold Xc
 first | (rw [qc] at h; split at h) | split at h
 ·cases h; exact ⟨none, rfl, trivial⟩
 ·rename_i x
  first | (rw [qc] at h; split at h) | split at h
  ·rename_i d hd
   simp only [ZS, hd, Option.map_some]
   cases hi : a0N d with
   | none => rw [hi] at h; cases h
   | some m =>
    rw [hi] at h; cases h
    unfold a0N at hi
    split at hi
    ·cases hi; exact ⟨some _, rfl, rfl⟩
    ·cases hi
  ·cases h
theorem a1H : ∀ {l : List TV}, l.all ak2 = true → ∃ ps, All2 Ud l ps
 | [], _ => ⟨[], .nil⟩
 | d :: l, h => by
  simp only [List.all_cons, Bool.and_eq_true] at h
  obtain ⟨ps, hp⟩ := a1H h.2
  cases d <;> first | exact ⟨_ :: ps, .cons rfl hp⟩ | cases h.1
theorem a5z : ∀ {l : List TV} {ps qs : List PV}, All2 Ud l ps → All2 Ud l qs → ps = qs
 | _, _, _, .nil, .nil => rfl
 | _, _, _, .cons (a := a) h t, .cons h' t' => by
  rw [a5z t t']
  congr 1
  cases a <;> first | exact (show _ = _ from h).trans (show _ = _ from h').symm | exact h.elim
theorem a08 : ∀ (c : CT) (x : c.T), All2 Ud (tvC c x) (qT c x)
 | .int _, _ => .cons rfl .nil
 | .bool, _ => .cons rfl .nil
 | .str, _ => .cons rfl .nil
 | .sl _, _ => .cons rfl .nil
 | .pair a b, x => (a08 a x.1).append (a08 b x.2)
theorem a74 : ∀ {vs : List TV} {ps : List PV} {cs : List TV} {qs : List PV} (i : Nat), All2 Ud cs qs → All2 Ud vs ps → All2 Ud (jH cs i vs) (jg qs i ps)
 | [], _, cs, qs, i, h, .nil => h
 | v :: vs, _, cs, qs, i, h, .cons a t => a74 (i + 1) (h.set a i) t
theorem abt : ∀ ps : List PV, pvs (ps.map .p) = some ps
 | [] => rfl
 | p :: l => by simp only [List.map_cons, pvs, abt l, Option.map_some]
theorem XK {l : List TV} {ps : List PV} (h : All2 Ud l ps) : pvs (l.map qy) = some ps := by rw [a5V h, abt]
theorem acL {c : CT} {xs : List c.T} {i : Nat} {z : c.T} {row : List PV} (h : All2 unP (qT c z) row) : K8 ((xs.set i z).map (qT c)) ((xs.map (qT c)).set i row) := by
 refine .inr ?_
 rw [List.map_set]
 exact (All2.refl_of (fun r => All2.refl_of a76 r) _).set h i
theorem vO {t : TypeId} {p x : TV} {v u : Value} {Ks : List TO → Tree R} (H : Hp P h0 W0 γ (eL L) h) (hp : DR P (qe W0 γ (eL L) h) γ (eL L) h (enc p) v) (hx : DR P (qe W0 γ (eL L) h) γ (eL L) h (enc x) u) (e : (a4j P L t p x Ks).run = some z) :
  ∃ h' L', ya P t h v u = some h' ∧ Hp P h0 W0 γ (eL L') h' ∧ Carry W0 γ (eL L) h γ (eL L') h' ∧ (Ks L').run = some z := by
 unfold a4j at e
 first | (rw [qc] at e; split at e) | split at e
 ·rename_i id off
  first | (rw [qc] at e; split at e) | split at e
  ·rename_i cells hL
   first | (rw [qc] at e; split at e) | split at e
   ·rename_i hc
    obtain ⟨h', a, b, c⟩ := Kz (t := t) (L' := (eL L).set id (.st ((jH cells off (yd x)).map qy))) H hp hx (by
     unfold Jh
     simp only [aja, zg hL, kQ]
     rw [Ky, Ke hc.1, List.length_map, List.length_map, if_pos hc, Zw])
    refine ⟨h', _, a, ?_, ?_, e⟩
    ·rw [QZ]; exact b
    ·rw [QZ]; exact c
   ·cases e
  ·cases e
 ·rename_i id i off tot
  cases hf : a9P P L x with
  | mk x' r =>
   obtain ⟨L1, q⟩ := r
   simp only [hf] at e
   first | (rw [qc] at e; split at e) | split at e
   ·rename_i c te loc xs hL
    first | (rw [qc] at e; split at e) | split at e
    ·rename_i hc
     first | (rw [qc] at e; split at e) | split at e
     ·rename_i ht
      replace e := kL e; obtain ⟨y, hy, e⟩ := e
      replace e := qa e; obtain ⟨zz, hz, e⟩ := e
      replace e := kp e; obtain ⟨hq, e⟩ := e
      obtain ⟨⟨H1, c1⟩, hx1⟩ := YH H hx hf hq
      have hp1 := c1.dr hp
      obtain ⟨ps, hps⟩ := a1H hc.2.2.2
      have hlen := hps.length
      obtain ⟨row, hr1, hr2⟩ := V5 hz
      have hrow : row = jg (qT c y) off ps := a5z hr1 (a74 off (a08 c y) hps)
      subst hrow
      obtain ⟨h', a, b, c2⟩ := Kz (t := t) (L' := (eL L1).set id (.li (eo loc te xs.length) ((xs.map (qT c)).set i (jg (qT c y) off ps)))) H1 hp1 hx1 (by
       unfold Jh
       simp only [akj, zg hL, kQ, List.length_map, if_pos ht, List.getElem?_map, hy, Option.map_some]
       rw [Ky, if_pos hc.1, Ke hc.1, XK hps]
       simp only
       rw [if_pos ⟨by rw [← hlen]; exact hc.2.1, by rw [← hlen, kF]; exact hc.2.2.1⟩])
      have hlt : id < (eL L1).length := by rw [zW]; exact (List.getElem?_eq_some_iff.1 hL).1
      obtain ⟨b', c3⟩ := a2M b (id := id) (List.getElem?_set_self hlt) (acL (c := c) (xs := xs) (i := i) (z := zz) hr2)
      rw [List.set_set] at b' c3
      have he : (eL L1).set id (.li (eo loc te xs.length) ((xs.set i zz).map (qT c))) = eL (L1.set id (.li c te loc (xs.set i zz))) := by rw [QZ]; simp [kQ]
      rw [he] at b' c3
      exact ⟨h', _, a, b', (c1.trans' c2).trans' c3, e⟩
     ·cases e
    ·cases e
   ·cases e
 ·cases e
theorem vI {c : CT} : ∀ (ps : List (Nat × TV)) (rows out : List c.T) (drows : List (List PV)), All2 (All2 unP) (rows.map (qT c)) drows → WE c rows ps = some out →
  ∃ dout, wZ c.size drows (ps.map fun p => (p.1, enc p.2)) = some dout ∧ All2 (All2 unP) (out.map (qT c)) dout
 | [], rows, out, drows, hw, h => by cases h; exact ⟨drows, rfl, hw⟩
 | (i, d) :: r, rows, out, drows, hw, h => by
  unfold WE at h
  simp only [List.map_cons, wZ]
  first | (rw [qc] at h; split at h) | split at h
  ·rename_i hc
   first | (rw [qc] at h; split at h) | split at h
   ·rename_i y hy
    obtain ⟨ps, h1, h2⟩ := V5 hy
    have hl : i < drows.length := by rw [← hw.length]; simpa using hc.2
    rw [Ky, if_pos ⟨hc.1, hl⟩, Ke hc.1, XK h1]
    simp only
    rw [if_pos (by rw [← h2.length, kF])]
    exact vI r _ _ _ (by rw [List.map_set]; exact hw.set h2 i) h
   ·cases h
  ·cases h
theorem vg {ty : TypeId → Option CT} {t : TypeId} {len : Nat} {ps : List (Nat × TV)} {qs : List (Nat × Value)} (H : Hp P h0 W0 γ (eL L) h)
  (hr : All2 (fun d v => d.1 = v.1 ∧ DR P (qe W0 γ (eL L) h) γ (eL L) h d.2 v.2) (ps.map fun p => (p.1, enc p.2)) qs) (e : (Wr P ty L t len ps K).run = some z) :
  ∃ q mk, jt P t len qs = some (q, mk) ∧ Jf P h0 W0 γ L h K z (mk h.next) (h.push q) := by
 unfold Wr at e
 first | (rw [qc] at e; split at e) | split at e
 ·rename_i te hu
  replace e := qa e; obtain ⟨c, hc, e⟩ := e
  replace e := qa e; obtain ⟨z0, hz0, e⟩ := e
  first | (rw [qc] at e; split at e) | split at e
  ·rename_i hcond
   cases hf : a29 P L ps with
   | mk ps' r =>
    obtain ⟨L1, q⟩ := r
    simp only [hf] at e
    replace e := qa e; obtain ⟨rows, hrows, e⟩ := e
    replace e := kp e; obtain ⟨hq, e⟩ := e
    obtain ⟨⟨H1, c1⟩, hr1⟩ := xT H hr hf hq
    cases hzt : xW P te with
    | none => rw [hzt] at hz0; cases hz0
    | some zc =>
     rw [hzt] at hz0
     obtain ⟨zr, q1, q2⟩ := V5 (show a59 c zc = some z0 from hz0)
     obtain ⟨dout, d1, d2⟩ := vI ps' (List.replicate len z0) rows (List.replicate len zr) (by
      rw [List.map_replicate]
      exact UG q2 len) hrows
     have hbs : wg P (eL L1) t len (ps'.map fun p => (p.1, enc p.2)) = some (.ref L1.length 0 len len, eL L1 ++ [.li (some te) dout]) := by
      unfold wg
      rw [hu]
      simp only [vf, hzt, Option.map_some, Option.bind_some, XK q1, hcond.1]
      rw [if_pos ⟨by rw [← q2.length, kF], hcond.2.1, CT.size_pos c, hcond.2.2⟩, d1, zW]
     obtain ⟨qq, mk, m1, m2⟩ := Zz (K := fun d L' => d = .ref L1.length 0 len len ∧ L' = eL L1 ++ [.li (some te) dout]) H1 hr1 hbs ⟨rfl, rfl⟩
     refine ⟨qq, mk, m1, ?_⟩
     obtain ⟨γ', d, L', ⟨rfl, rfl⟩, a, b, d3⟩ := m2
     have hlt : L1.length < (eL L1 ++ [Obj.li (some te) dout]).length := by simp [zW]
     obtain ⟨b', c3⟩ := a2M a (id := L1.length) (e := some te) (rows := dout) (by simp [zW]) (.inr d2)
     have he : (eL L1 ++ [Obj.li (some te) dout]).set L1.length (.li (some te) (rows.map (qT c))) = eL (L1 ++ [.li c te true rows]) := by
      rw [jN, List.set_append_right _ _ (by rw [zW]; exact Nat.le_refl _)]
      simp [zW, kQ, eo]
     rw [he] at b' c3
     exact ⟨γ', _, _, e, b', (c1.trans' b).trans' c3, c3.dr d3⟩
  ·cases e
 ·cases e
end
open Go.RowKit
section
variable {R : Type} {P : Program} {γ : Pl} {L : List TO} {h : Heap} {h0 : Heap} {W0 : Ent} {z : R} {K : TV → List TO → Tree R}
theorem ky {ρ : KM} {r : Rho} (hρ : xb P W0 γ (eL L) h (ZS ρ) r) {x : Operand} {d : TV} (e : ρ x = some d) : ∃ v, r x = some v ∧ DR P (qe W0 γ (eL L) h) γ (eL L) h (enc d) v := hρ x _ (by unfold ZS; rw [e]; rfl)
theorem qW {ρ : KM} {x : Operand} {d : TV} (e : ρ x = some d) : ZS ρ x = some (enc d) := by unfold ZS; rw [e]; rfl
theorem KT.mk {d : TV} {L' : List TO} (h : (K d L').run = some z) : KT K z (enc d) (eL L') := ⟨d, L', rfl, rfl, h⟩
theorem ad7 {t x y : Bool} {d : DV} (hd : d = enc (.v (.bool (cond t x y)))) : JS (some (.p (.v (.bool t)))) (some (.p (.v (.bool x)))) (some (.p (.v (.bool y)))) = some d := by
 subst hd; cases t <;> rfl
theorem adu {c a b : Option TV} {K : TV → Tree R} (h : (ahz c a b K).run = some z) : ∃ r, JS (c.map enc) (a.map enc) (b.map enc) = some (enc r) ∧ (K r).run = some z := by
 unfold ahz at h
 first | (rw [qc] at h; split at h) | split at h
 ·rename_i t
  first | (rw [qc] at h; split at h) | split at h
  ·rename_i x y
   exact ⟨_, ad7 rfl, h⟩
  ·rename_i a b hn
   cases t with
   | true =>
    replace h := qa h; obtain ⟨r, h1, h2⟩ := h
    exact ⟨r, by subst h1; rfl, h2⟩
   | false =>
    replace h := qa h; obtain ⟨r, h1, h2⟩ := h
    exact ⟨r, by subst h1; rfl, h2⟩
 ·cases h
theorem aiH {S : Nat → Prop} {c : CT} {xs : List c.T} {op : BinOp} {t : TypeId} {b0 : Bool} (hop : (op = .eql ∧ b0 = true) ∨ (op = .neq ∧ b0 = false)) (ht : a5T P t = true) {v : Value} (hv : PR P S h (.sl c.size (xs.map (qT c))) v) :
  ∃ b, zk P op t v (.slice none 0 0) = some (.bool b) ∧ (b = b0 ∨ b = !b0) ∧ (xs.length ≠ 0 → b = !b0) := by
 unfold a5T at ht
 split at ht
 ·rename_i e hu
  have q1 : zk P op t (.slice none 0 0) (.slice none 0 0) = some (.bool b0) := by
   rcases hop with ⟨rfl, rfl⟩ | ⟨rfl, rfl⟩
   ·exact a7A hu
   ·exact a7q hu
  have q2 : ∀ a n k, zk P op t (.slice (some a) n k) (.slice none 0 0) = some (.bool (!b0)) := by
   intro a n k
   rcases hop with ⟨rfl, rfl⟩ | ⟨rfl, rfl⟩
   ·exact afb hu a n k
   ·exact afI hu a n k
  generalize hrows : xs.map (qT c) = rows at hv
  have hl : xs.length = rows.length := by rw [← hrows, List.length_map]
  cases hv with
  | nil => exact ⟨b0, q1, .inl rfl, fun q => absurd hl q⟩
  | dud => exact ⟨!b0, q2 _ _ _, .inr rfl, fun _ => rfl⟩
  | zero => exact ⟨!b0, q2 _ _ _, .inr rfl, fun _ => rfl⟩
  | sl => exact ⟨!b0, q2 _ _ _, .inr rfl, fun _ => rfl⟩
 ·cases ht
theorem aic {op : BinOp} {x y : TV} (h : a4J op x y = true) : ∃ (c : CT) (xs : List c.T) (b0 : Bool), x = .sl c xs ∧ y = .v (.slice none 0 0) ∧ ((op = .eql ∧ b0 = true) ∨ (op = .neq ∧ b0 = false)) := by
 unfold a4J at h
 split at h
 ·exact ⟨_, _, true, rfl, rfl, .inl ⟨rfl, rfl⟩⟩
 ·exact ⟨_, _, false, rfl, rfl, .inr ⟨rfl, rfl⟩⟩
 ·cases h
theorem ah5 {n : Nat} {b0 b : Bool} {K : TV → Tree R} (h : (aeM n b0 K).run = some z) (hb : (b = b0 ∨ b = !b0) ∧ (n ≠ 0 → b = !b0)) : (K (.v (.bool b))).run = some z := by
 unfold aeM at h
 by_cases hn : n = 0
 ·subst hn
  have h' : bothM (K (.v (.bool b0))).run (K (.v (.bool (!b0)))).run = some z := h
  obtain ⟨h1, h2⟩ := a8O h'
  rcases hb.1 with rfl | rfl
  ·exact h1
  ·exact h2
 ·have h' : (match decide (n = 0) with
   | true => bothM (K (.v (.bool b0))).run (K (.v (.bool (!b0)))).run
   | false => (K (.v (.bool (!b0)))).run) = some z := h
  rw [decide_eq_false hn] at h'
  rw [hb.2 hn]; exact h'
theorem w8 {ty : TypeId → Option CT} {call : yt R} {wr : TWr} (hcall : TCallOk P call wr) {o : Op} {ρ : KM} {r : Rho} (H : Hp P h0 W0 γ (eL L) h) (hρ : xb P W0 γ (eL L) h (ZS ρ) r) (e : (vk P ty call o ρ L K).run = some z) : qG P o r h (Jf P h0 W0 γ L h K z) := by
 have go : zO P o (ZS ρ) (eL L) (KT K z) → qG P o r h (Jf P h0 W0 γ L h K z) := fun hd => yQ (fun v h' q => agu q) (adB H hρ hd)
 unfold vk at e
 first | (rw [qc] at e; split at e) | split at e
 ·replace e := qa e; obtain ⟨d, h1, e⟩ := e
  refine go ?_
  unfold zO
  simp only [qW h1, qI]
  exact KT.mk e
 ·replace e := qa e; obtain ⟨d, h1, e⟩ := e
  refine go ?_
  unfold zO
  simp only [qW h1, qI]
  exact KT.mk e
 ·obtain ⟨d, h1, h2⟩ := adu e
  refine go ?_
  unfold zO
  simp only
  unfold ZS
  rw [h1]
  exact KT.mk h2
 ·replace e := qa e; obtain ⟨ds, h1, e⟩ := e
  replace e := qa e; obtain ⟨d, h2, e⟩ := e
  refine go ?_
  unfold zO
  simp only [xd, h1, Option.map_some, qI, aax h2]
  exact KT.mk e
 ·replace e := qa e; obtain ⟨x, h1, e⟩ := e
  replace e := qa e; obtain ⟨d, h2, e⟩ := e
  refine go ?_
  unfold zO
  simp only [qW h1, qI, a8j h2]
  exact KT.mk e
 ·replace e := qa e; obtain ⟨x, h1, e⟩ := e
  replace e := qa e; obtain ⟨k, h2, e⟩ := e
  obtain ⟨d, h3, h4⟩ := a3T e
  refine go ?_
  unfold zO Q5
  simp only [qW h1, qI, h2, h3]
  exact KT.mk h4
 ·replace e := qa e; obtain ⟨x, h1, e⟩ := e
  replace e := qa e; obtain ⟨v, h2, e⟩ := e
  replace e := qa e; obtain ⟨d, h3, e⟩ := e
  refine go ?_
  unfold zO
  simp only [qW h1, qI, QV, h2, YF h3]
  exact KT.mk e
 ·rename_i op tt x0 y0 tr
  replace e := qa e; obtain ⟨x, h1, e⟩ := e
  replace e := qa e; obtain ⟨y, h2, e⟩ := e
  cases hn : a4J op x y with
  | true =>
   obtain ⟨c, xs, b0, rfl, rfl, hop⟩ := aic hn
   have e' : ∃ b0', b0' = b0 ∧ a5T P tt = true ∧ (aeM xs.length b0' fun d => K d L).run = some z := by
    rcases hop with ⟨rfl, rfl⟩ | ⟨rfl, rfl⟩
    ·unfold ah6 at e
     simp only at e
     split at e
     ·rename_i ht; exact ⟨_, rfl, ht, e⟩
     ·cases e
    ·unfold ah6 at e
     simp only at e
     split at e
     ·rename_i ht; exact ⟨_, rfl, ht, e⟩
     ·cases e
   obtain ⟨_, rfl, ht, e2⟩ := e'
   obtain ⟨v, r1, d1⟩ := ky hρ h1
   obtain ⟨u, r2, d2⟩ := ky hρ h2
   have hu : u = .slice none 0 0 := PR.scal (P := P) (S := qe W0 γ (eL L) h) (h := h) d2
   subst hu
   obtain ⟨b, q1, q2, q3⟩ := aiH (P := P) (h := h) hop ht d1
   simp only [qG, zm, r1, r2, q1]
   exact ⟨γ, .v (.bool b), L, ah5 e2 ⟨q2, q3⟩, H, Carry.refl _ _ _, PR.v rfl⟩
  | false =>
  obtain ⟨d, h3, h4⟩ := afe hn e
  refine go ?_
  unfold zO
  simp only [qW h1, qW h2, qI, h3]
  exact KT.mk h4
 ·replace e := qa e; obtain ⟨x, h1, e⟩ := e
  obtain ⟨d, L', h3, h4⟩ := aem e
  refine go ?_
  unfold zO
  simp only [qW h1, qI, h3]
  exact KT.mk h4
 ·replace e := qa e; obtain ⟨d, h2, e⟩ := e
  refine go ?_
  unfold zO
  simp only [jj, qI, ae6 h2]
  exact KT.mk e
 ·replace e := qa e; obtain ⟨x, h1, e⟩ := e
  replace e := qa e; obtain ⟨y, h2, e⟩ := e
  obtain ⟨d, h3, h4⟩ := ux e
  refine go ?_
  unfold zO
  simp only [qW h1, qW h2, qI, h3]
  exact KT.mk h4
 ·replace e := qa e; obtain ⟨x, h1, e⟩ := e
  replace e := qa e; obtain ⟨y, h2, e⟩ := e
  obtain ⟨d, h3, h4⟩ := a6t e
  refine go ?_
  unfold zO
  simp only [qW h1, qW h2, qI, h3]
  exact KT.mk h4
 ·replace e := qa e; obtain ⟨x, h1, e⟩ := e
  replace e := qa e; obtain ⟨d, h2, e⟩ := e
  refine go ?_
  unfold zO
  simp only [qW h1, qI, a2q h2]
  exact KT.mk e
 ·replace e := qa e; obtain ⟨x, h1, e⟩ := e
  obtain ⟨d, h3, h4⟩ := a3T e
  refine go ?_
  unfold zO ac6
  simp only [qW h1, qI, h3]
  exact KT.mk h4
 ·replace e := qa e; obtain ⟨x, h1, e⟩ := e
  obtain ⟨d, h3, h4⟩ := Wz e
  refine go ?_
  unfold zO
  simp only [qW h1, qI, h3]
  exact KT.mk h4
 ·replace e := qa e; obtain ⟨x, h1, e⟩ := e
  replace e := qa e; obtain ⟨y, h2, e⟩ := e
  obtain ⟨v, r1, d1⟩ := ky hρ h1
  obtain ⟨u, r2, d2⟩ := ky hρ h2
  obtain ⟨h', L', a, b, c, hk⟩ := vO H d1 d2 e
  simp only [qG, r1, r2, a]
  exact ⟨γ, _, L', hk, b, c, ⟨#[], rfl, .nil⟩⟩
 ·replace e := qa e; obtain ⟨x, h1, e⟩ := e
  replace e := qa e; obtain ⟨lo, h2, e⟩ := e
  replace e := qa e; obtain ⟨hi, h3, e⟩ := e
  obtain ⟨lv, l1, l2⟩ := a3R h2
  obtain ⟨hv, l3, l4⟩ := a3R h3
  obtain ⟨d, h4, h5⟩ := a8v l2 l4 e
  refine go ?_
  unfold zO
  simp only [qW h1, l1, l3, qI, a2b, h4]
  exact KT.mk h5
 ·replace e := qa e; obtain ⟨x, h1, e⟩ := e
  first | (rw [qc] at e; split at e) | split at e
  ·rename_i hc
   refine go ?_
   unfold zO
   simp only [qW h1, qI]
   rw [Ky, Ke hc.1, List.length_map]
   refine ⟨hc.1, hc.2, _, _, ?_, ?_, e⟩
   ·rw [zW]; rfl
   ·rw [jN]; rfl
  ·cases e
 ·replace e := qa e; obtain ⟨x, h1, e⟩ := e
  refine go ?_
  unfold zO
  simp only [vf, h1, Option.map_some, qI]
  refine ⟨_, _, ?_, ?_, e⟩
  ·rw [zW]; rfl
  ·rw [jN]; rfl
 ·replace e := qa e; obtain ⟨ds, h1, e⟩ := e
  obtain ⟨vs, r1, d1⟩ := Zn hρ (ds := ds.map fun p => (p.1, enc p.2)) (by rw [xd, h1]; rfl)
  obtain ⟨q, mk, a, b⟩ := vg H d1 e
  simp only [qG, wa, r1, a]
  exact b
 ·replace e := qa e; obtain ⟨f, h1, e⟩ := e
  replace e := qa e; obtain ⟨ds, h2, e⟩ := e
  first | (rw [qc] at e; split at e) | split at e
  ·rename_i k pre cap
   first | (rw [qc] at e; split at e) | split at e
   ·rename_i hb
    simp only [Bool.and_eq_true] at hb
    refine go ?_
    unfold zO
    simp only [qW h1, jj, h2, Option.map_some, qI]
    have := hcall.weak e
    rw [List.map_append, List.map_append, (yN hb.1).2, (yN hb.2).2] at this
    exact this
   ·cases e
  ·cases e
 ·replace e := qa e; obtain ⟨ds, h1, e⟩ := e
  first | (rw [qc] at e; split at e) | split at e
  ·obtain ⟨d, L', h3, h4⟩ := X4 e
   refine go ?_
   unfold zO
   simp only [jj, h1, Option.map_some, qI, List.map_cons, List.map_nil, h3]
   exact KT.mk h4
  ·cases e
 ·replace e := qa e; obtain ⟨ds, h1, e⟩ := e
  first | (rw [qc] at e; split at e) | split at e
  ·rename_i x t ht
   obtain ⟨d, h3, h4⟩ := a1O e
   refine go ?_
   unfold zO
   simp only [jj, h1, Option.map_some, qI, List.map_cons, List.map_nil, ht, h3]
   exact KT.mk h4
  ·cases e
 ·replace e := qa e; obtain ⟨ds, h1, e⟩ := e
  replace e := qa e; obtain ⟨vs, h2, e⟩ := e
  replace e := qa e; obtain ⟨d, h3, e⟩ := e
  refine go ?_
  unfold zO
  simp only [jj, h1, Option.map_some, qI, v6, h2, YF h3]
  exact KT.mk e
 ·replace e := qa e; obtain ⟨ds, h1, e⟩ := e
  replace e := qa e; obtain ⟨vs, h2, e⟩ := e
  replace e := qa e; obtain ⟨d, h3, e⟩ := e
  refine go ?_
  unfold zO
  simp only [jj, h1, Option.map_some, qI, v6, h2, YF h3]
  exact KT.mk e
 ·cases e
end
open Go.RowKit
def W2 {R : Type} (n : Int) : Nat → (Nat → Tree R) → Tree R
 | 0, _ => .fail
 | m + 1, K => .cond (decide (n = (m : Int))) (K m) (W2 n m K)
theorem jy {R : Type} {z : R} {n : Int} : ∀ {m : Nat} {K : Nat → Tree R}, (W2 n m K).run = some z → ∃ k, k < m ∧ n = k ∧ (K k).run = some z
 | 0, K, h => by cases h
 | m + 1, K, h => by
  unfold W2 at h
  by_cases hn : n = (m : Int)
  ·rw [decide_eq_true hn] at h
   exact ⟨m, Nat.lt_succ_self m, hn, h⟩
  ·rw [decide_eq_false hn] at h
   obtain ⟨k, h1, h2, h3⟩ := jy (m := m) h
   exact ⟨k, by omega, h2, h3⟩
section
variable {P : Program} {S : Nat → Prop} {h : Heap}
theorem PR.part {z b o c : Nat} {rows : List (List PV)} {cs : List Value} {te : TypeId} {rw : Bool} (hS : S b) (hg : h.get b = some (.cells cs te rw)) (h0z : 0 < z) (hl : o + rows.length * z ≤ cs.length)
  (hw : ∀ (i : Nat) (r : List PV), rows[i]? = some r → r.length = z)
  (hrr : ∀ (i : Nat) (r : List PV) (j : Nat) (x : PV) (u : Value), rows[i]? = some r → r[j]? = some x → cs[o + i * z + j]? = some u → PR P S h x u)
  (hm : rows.length ≤ maxLen) {l r : Nat} (hlr : l ≤ r) (hr : r ≤ rows.length) (hc : CapOk P c (r - l) rw te z) : PR P S h (.sl z ((rows.drop l).take (r - l))) (.slice (some ⟨b, o + l * z, none⟩) (r - l) c) := by
 have hlen : ((rows.drop l).take (r - l)).length = r - l := by simp; omega
 have hmul : r * z ≤ rows.length * z := Nat.mul_le_mul_right _ hr
 have hsub : (r - l) * z = r * z - l * z := Nat.sub_mul _ _ _
 have hlz : l * z ≤ r * z := Nat.mul_le_mul_right _ hlr
 have := PR.sl (P := P) (S := S) (h := h) (rows := (rows.drop l).take (r - l)) (b := b) (o := o + l * z) (c := c) (z := z) hS hg h0z (by rw [hlen, hsub]; omega)
  (fun i q e1 => by
   rw [List.getElem?_take] at e1
   split at e1
   ·rw [List.getElem?_drop] at e1; exact hw _ q e1
   ·cases e1)
  (fun i q j x u e1 e2 e3 => by
   rw [List.getElem?_take] at e1
   split at e1
   ·rw [List.getElem?_drop] at e1
    exact hrr (l + i) q j x u e1 e2 (by rw [← e3]; congr 1; rw [Nat.add_mul]; omega)
   ·cases e1) (by rw [hlen]; exact hc) (by rw [hlen]; omega)
 rw [hlen] at this
 exact this
theorem VH {z : Nat} {rows : List (List PV)} {v : Value} {t te : TypeId} {lo hi mx : Option Value} {l r : Nat} (hv : PR P S h (.sl z rows) v) (hu : P.underlying t = some (.slice te)) (hs : szT P te = some z) (hb : qK rows.length rows.length lo hi mx = some (l, r, some r)) :
  ∃ u, zo P (zd P h) t v lo hi mx = some u ∧ ((l = r ∧ a90 u) ∨ (l < r ∧ CxV P S h z ((rows.drop l).take (r - l)) u)) := by
 have hdu : dud > maxLen := by decide
 have hun : unk > maxLen := by decide
 have hno : qN > maxLen := by decide
 have hnu : qN ≠ unk := by decide
 obtain ⟨_, hlr, hr, _⟩ := QE (Nat.le_refl _) hb
 unfold zo
 simp only [hu]
 cases hv with
 | nil =>
  simp only [List.length_nil] at hb hr
  have : l = r := by omega
  simp only [hs, hb]
  exact ⟨_, rfl, .inl ⟨this, .inl rfl⟩⟩
 | dud =>
  simp only [List.length_nil] at hb hr
  have : l = r := by omega
  simp only [hs]
  rw [show qX 0 dud = 0 from by decide]
  simp only [hb, if_true]
  exact ⟨_, rfl, .inl ⟨this, .inr ⟨_, _, rfl⟩⟩⟩
 | @zero _ bz oz =>
  simp only [List.length_nil] at hb hr
  have hl0 : l = 0 := by omega
  have hr0 : r = 0 := by omega
  subst hl0 hr0
  simp only [hs]
  rw [show qX 0 0 = 0 from by decide]
  simp only [hb]
  rw [if_neg (by decide), if_neg (by simp)]
  exact ⟨.slice (some ⟨bz, oz, none⟩) 0 0, by simp, .inl ⟨trivial, .inr ⟨_, _, rfl⟩⟩⟩
 | sl hS hg h0z hl hw hrr hc hm =>
  rename_i b o c cs te' rw'
  have hcap : rows.length ≤ qX rows.length c := by
   unfold qX
   rcases hc with rfl | ⟨_, _, rfl | ⟨h1, h2⟩⟩
   ·rw [if_neg hnu, if_pos rfl]; exact Nat.le_refl _
   ·rw [if_pos rfl]; exact Nat.le_refl _
   ·rw [if_neg (by omega), if_neg (by omega), if_neg (by omega)]; exact h1
  have hbd := (QE hcap hb).1
  simp only [hs, hbd]
  rw [if_neg hc.nodud]
  have hE : ¬ (c ≠ qN ∧ ¬ (rows.length = 0 ∧ c = 0) ∧ zd P h b ≠ some z) := by
   rintro ⟨h1, _, h2⟩
   rcases hc with rfl | ⟨rfl, h3, _⟩
   ·exact h1 rfl
   ·exact h2 (by unfold zd; rw [hg]; exact h3)
  rw [if_neg hE]
  by_cases hq : r = l
  ·rw [if_pos hq]
   exact ⟨_, rfl, .inl ⟨hq.symm, .inr ⟨_, _, by rw [hq, Nat.sub_self]⟩⟩⟩
  ·rw [if_neg hq]
   have hlt : l < r := by omega
   have hlen : ((rows.drop l).take (r - l)).length = r - l := by simp; omega
   have hne : (rows.drop l).take (r - l) ≠ [] := fun q => by rw [q] at hlen; simp at hlen; omega
   by_cases hcn : c = qN
   ·rw [if_pos ⟨hcn, trivial⟩]
    exact ⟨_, rfl, .inr ⟨hlt, hne, .inl ⟨_, rfl, rfl, PR.part hS hg h0z hl hw hrr hm hlr hr (.inl rfl)⟩⟩⟩
   ·rw [if_neg (fun q => hcn q.1), if_neg hcn]
    rcases hc with hc | ⟨h1, h2, h3⟩
    ·exact absurd hc hcn
    ·refine ⟨_, rfl, .inr ⟨hlt, hne, .inr ⟨b, o + l * z, by rw [hlen], ?_⟩⟩⟩
     exact PR.part hS hg h0z hl hw hrr hm hlr hr (.inr ⟨h1, h2, .inr ⟨Nat.le_refl _, by omega⟩⟩)
theorem uv {v : Value} {t te : TypeId} {z : Nat} {lo hi mx : Option Value} {l r : Nat} (hv : a90 v) (hu : P.underlying t = some (.slice te)) (hs : szT P te = some z) (hb : qK 0 0 lo hi mx = some (l, r, some r)) : ∃ u, zo P (zd P h) t v lo hi mx = some u ∧ a90 u := by
 obtain ⟨u, h1, h2⟩ : ∃ u, zo P (zd P h) t v lo hi mx = some u ∧ ((l = r ∧ a90 u) ∨ (l < r ∧ CxV P (fun _ => False) h z (([] : List (List PV)).drop l |>.take (r - l)) u)) := by
  rcases hv with rfl | ⟨b, o, rfl⟩
  ·exact VH (z := z) (rows := []) .nil hu hs hb
  ·exact VH (z := z) (rows := []) .zero hu hs hb
 refine ⟨u, h1, ?_⟩
 rcases h2 with ⟨_, h2⟩ | ⟨_, h2, _⟩
 ·exact h2
 ·exact absurd (by simp) h2
end
section
variable {P : Program} {γ : Pl} {L : List Obj} {h : Heap} {h0 : Heap} {W0 : Ent}
theorem VQ (H : Hp P h0 W0 γ L h) {v : Value} (hv : a90 v) : Hp P h0 W0 γ (L ++ [.li none []]) h ∧ Carry W0 γ L h γ (L ++ [.li none []]) h ∧ DR P (qe W0 γ (L ++ [.li none []]) h) γ (L ++ [.li none []]) h (.ref L.length 0 0 0) v := by
 have hno : γ L.length = none := by
  cases hq : γ L.length with
  | none => rfl
  | some x => have := H.dom _ _ hq; omega
 have h1 : v.oneCell' = true := by rcases hv with rfl | ⟨_, _, rfl⟩ <;> rfl
 refine ⟨H.virtual rfl ⟨rfl, hno⟩, ZY _ rfl, by simp, h1, fun o rs e1 e2 => ?_⟩
 simp at e1
 subst e1
 cases e2
 exact ⟨Nat.le_refl _, fun _ => ⟨by omega, fun z _ => .inl ⟨hv, rfl, hno⟩⟩⟩
theorem adY (H : Hp P h0 W0 γ L h) {t t2 te : TypeId} {i : TypeInfo} {zc : List Value} {rows ys : List (List PV)} {x : DV} {v w : Value} (hu : P.underlying t = some (.slice te)) (hi : P.info? te = some i) (hz : za P te = some zc)
  (hv : CxV P (qe W0 γ L h) h i.size rows v) (hx : DR P (qe W0 γ L h) γ L h x w) (hy : a4s P L i.size t2 x = some ys) (h0z : 0 < i.size) (c1 : rows.length + ys.length ≤ maxLen) (c2 : (rows.length + ys.length) * i.bytes ≤ 140737488355328) :
  (ys = [] ∧ jf P [t, t2] h v w = some (v, h)) ∨ (0 < ys.length ∧ ∃ cs, jf P [t, t2] h v w = some (qz (rows.length + ys.length) unk h.next, h.push (.cells cs te true)) ∧
   ∃ γ', Hp P h0 W0 γ' (L ++ [.li (some te) (rows ++ ys)]) (h.push (.cells cs te true)) ∧ Carry W0 γ L h γ' (L ++ [.li (some te) (rows ++ ys)]) (h.push (.cells cs te true)) ∧
   DR P (qe W0 γ' (L ++ [.li (some te) (rows ++ ys)]) (h.push (.cells cs te true))) γ' (L ++ [.li (some te) (rows ++ ys)]) (h.push (.cells cs te true)) (.ref L.length 0 (rows.length + ys.length) (rows.length + ys.length)) (qz (rows.length + ys.length) unk h.next)) := by
 obtain ⟨cs, hsrc, hf⟩ := yx H hx hy
 have hsz : szT P te = some i.size := by unfold szT; rw [hi]; rfl
 obtain ⟨hne, hcx⟩ := hv
 have hun : unk > maxLen := by decide
 have hno : qN > maxLen := by decide
 have hdu : dud > maxLen := by decide
 have hpos : 0 < rows.length := List.length_pos_iff.2 hne
 by_cases h0y : ys.length = 0
 ·left
  have hys : ys = [] := List.length_eq_zero_iff.1 h0y
  refine ⟨hys, ?_⟩
  subst hys
  unfold jf
  simp only [hu, hi, hz, hsrc]
  rcases hcx with ⟨u, rfl, h1, hp⟩ | ⟨b, o, rfl, hp⟩
  ·unfold Uk
   cases hp with
   | nil => exact absurd rfl hne
   | dud => exact absurd rfl hne
   | zero => exact absurd rfl hne
   | sl => simp [KI]
  ·simp
 ·right
  refine ⟨by omega, ?_⟩
  have old : ∀ {u : Value}, PR P (qe W0 γ L h) h (.sl i.size rows) u → ∃ b o c cs0 e' rw, u = .slice (some ⟨b, o, none⟩) rows.length c ∧ h.get b = some (.cells cs0 e' rw) ∧ o + rows.length * i.size ≤ cs0.length ∧ FlatR P (qe W0 γ L h) h i.size rows ((cs0.drop o).take (rows.length * i.size)) ∧ CapOk P c rows.length rw e' i.size := by
   intro u hp
   cases hp with
   | nil => exact absurd rfl hne
   | dud => exact absurd rfl hne
   | zero => exact absurd rfl hne
   | sl hS hg h0' hl hw hrr hc hm =>
    rename_i b o c cs0 e' rw'
    have hfl := WV (P := P) (h := h) (S := qe W0 γ L h) (cs := cs0) (o := o) (z := i.size) (rows := rows) (lo := 0) (n := rows.length) hl (fun r hr => by obtain ⟨k, hk⟩ := List.mem_iff_getElem?.1 hr; exact hw k r hk) (by omega) hrr
    simp only [List.drop_zero, List.take_length, Nat.zero_mul, Nat.add_zero] at hfl
    exact ⟨b, o, c, cs0, e', rw', rfl, hg, hl, hfl, hc⟩
  have fin : ∀ {cs1 : List Value}, FlatR P (qe W0 γ L h) h i.size rows cs1 → ∃ γ', Hp P h0 W0 γ' (L ++ [.li (some te) (rows ++ ys)]) (h.push (.cells (cs1 ++ cs) te true)) ∧ Carry W0 γ L h γ' (L ++ [.li (some te) (rows ++ ys)]) (h.push (.cells (cs1 ++ cs) te true)) ∧
   DR P (qe W0 γ' (L ++ [.li (some te) (rows ++ ys)]) (h.push (.cells (cs1 ++ cs) te true))) γ' (L ++ [.li (some te) (rows ++ ys)]) (h.push (.cells (cs1 ++ cs) te true)) (.ref L.length 0 (rows.length + ys.length) (rows.length + ys.length)) (qz (rows.length + ys.length) unk h.next) := by
   intro cs1 hf1
   have hff := hf1.append hf
   have hl2 : (rows ++ ys).length = rows.length + ys.length := List.length_append
   obtain ⟨γ', a1, a2, a3⟩ := UW H (te := te) (c := unk) hsz h0z (rows := rows ++ ys) (by rw [hff.len]; exact Nat.le_refl _) (by rw [hl2]; exact c1) hff.wide hff.get (.inl rfl)
   rw [hl2] at a3
   exact ⟨γ', a1, a2, a3⟩
  unfold jf
  simp only [hu, hi, hz, hsrc]
  rcases hcx with ⟨u, rfl, h1, hp⟩ | ⟨b, o, rfl, hp⟩
  ·obtain ⟨b, o, c, cs0, e', rw', rfl, hg, hl, hfl, hc⟩ := old hp
   refine ⟨(cs0.drop o).take (rows.length * i.size) ++ cs, ?_, fin hfl⟩
   unfold Uk
   simp only [KI, List.size_toArray, List.length_cons, List.length_nil, Nat.reduceAdd, if_true, List.getElem?_toArray, List.getElem?_cons_zero]
   rw [if_neg h0y, if_pos ⟨c1, c2⟩]
   simp only [hg]
   rw [if_pos ⟨hl, hpos⟩]
  ·obtain ⟨b', o', c, cs0, e', rw', heq, hg, hl, hfl, hc⟩ := old hp
   cases heq
   refine ⟨(cs0.drop o).take (rows.length * i.size) ++ cs, ?_, fin hfl⟩
   have hlm : rows.length ≤ maxLen := by omega
   rcases hc with hc | ⟨r1, r2, r3⟩
   ·omega
   simp only
   rw [if_neg h0y, if_neg (by omega), if_pos ⟨c1, c2⟩, if_neg (by omega)]
   simp only [hg]
   rw [if_pos ⟨hl, .inl ⟨by omega, by omega⟩⟩, if_pos ⟨by omega, by omega⟩]
end
open Go.RowKit
section
variable {R : Type}
def a4F (P : Program) (ty : TypeId → Option CT) (L : List TO) (t : TypeId) (x : TV) (lo : Option Int) (hi mx : Int) (K : TV → List TO → Tree R) : Tree R :=
 match P.underlying t with
 | some (.slice e) => match x with
  | .sl c xs => if szT P e = some c.size then tif (0 ≤ lo.getD 0 ∧ lo.getD 0 ≤ hi ∧ hi = mx ∧ mx.toNat ≤ xs.length) (.cond (decide (lo.getD 0 = hi)) (K (.ref L.length 0) (L ++ [.li c e false []])) (K (.slx c ((xs.drop (lo.getD 0).toNat).take (hi.toNat - (lo.getD 0).toNat))) L)) else .fail
  | .v (.slice none 0 0) => qt (ty e) fun c => if szT P e = some c.size then tif (lo.getD 0 = 0 ∧ hi = 0 ∧ mx = 0) (K (.ref L.length 0) (L ++ [.li c e false []])) else .fail
  | .ref id tot => match L[id]? with
   | some (.li c e' loc xs) => if szT P e = some c.size ∧ e' = e then tif (xs.length = tot ∧ 0 ≤ lo.getD 0 ∧ lo.getD 0 ≤ hi ∧ hi = mx ∧ mx.toNat ≤ xs.length) (.cond (decide (lo.getD 0 = hi)) (K (.ref L.length 0) (L ++ [.li c e false []])) (.cond (decide (lo.getD 0 = 0 ∧ hi = tot)) (K (.ref id tot) L) (K (.slx c ((xs.drop (lo.getD 0).toNat).take (hi.toNat - (lo.getD 0).toNat))) (L.set id (.fz c e' loc xs))))) else .fail
   | some (.fz c e' loc xs) => if szT P e = some c.size ∧ e' = e then tif (xs.length = tot ∧ 0 ≤ lo.getD 0 ∧ lo.getD 0 ≤ hi ∧ hi = mx ∧ mx.toNat ≤ xs.length) (.cond (decide (lo.getD 0 = hi)) (K (.ref L.length 0) (L ++ [.li c e false []])) (K (.slx c ((xs.drop (lo.getD 0).toNat).take (hi.toNat - (lo.getD 0).toNat))) L)) else .fail
   | _ => .fail
  | _ => .fail
 | _ => .fail
variable {P : Program} {γ : Pl} {L : List TO} {h : Heap} {h0 : Heap} {W0 : Ent} {z : R} {K : TV → List TO → Tree R}
theorem Kd {n : Int} {v : Option Value} (h : BdV (some n) v) : ∃ k, v = some (.int k n) := by
 unfold BdV at h
 cases v with
 | none => cases h
 | some x =>
  cases x <;> first | (exact ⟨_, by rw [show _ = n from h]⟩) | (cases h)
theorem WG {k : IntKind} {n : Int} (h : 0 ≤ n) : jC (.int k n) = some n.toNat := by
 show (if 0 ≤ n then some n.toNat else none) = _
 rw [if_pos h]
theorem Xx {lo : Option Int} {hi mx : Int} {n : Nat} {vl vh vm : Option Value} (b1 : BdV lo vl) (b2 : BdV (some hi) vh) (b3 : BdV (some mx) vm) (c1 : 0 ≤ lo.getD 0) (c2 : lo.getD 0 ≤ hi) (c3 : hi = mx) (c4 : mx.toNat ≤ n) :
  qK n n vl vh vm = some ((lo.getD 0).toNat, hi.toNat, some hi.toNat) := by
 subst c3
 obtain ⟨k2, rfl⟩ := Kd b2
 obtain ⟨k3, rfl⟩ := Kd b3
 unfold qK
 simp only [WG (show 0 ≤ hi by omega)]
 rw [if_pos ⟨c4, Nat.le_refl _⟩]
 cases lo with
 | none =>
  cases vl with
  | none => rfl
  | some _ => cases b1
 | some l =>
  obtain ⟨k1, rfl⟩ := Kd b1
  simp only [Option.getD_some] at c1 c2 ⊢
  simp only [WG c1]
  rw [if_pos (by omega)]
theorem aiz (c : CT) (xs : List c.T) : enc (.slx c xs) = .cx c.size (xs.map (qT c)) := rfl
theorem a0k {ty : TypeId → Option CT} {t : TypeId} {x : TV} {lo : Option Int} {hi mx : Int} {vl vh vm : Option Value} {v : Value} (H : Hp P h0 W0 γ (eL L) h) (hx : DR P (qe W0 γ (eL L) h) γ (eL L) h (enc x) v) (b1 : BdV lo vl) (b2 : BdV (some hi) vh) (b3 : BdV (some mx) vm)
  (e : (a4F P ty L t x lo hi mx K).run = some z) : ∃ u, zo P (zd P h) t v vl vh vm = some u ∧ Jf P h0 W0 γ L h K z u h := by
 unfold a4F at e
 split at e
 case h_2 => cases e
 rename_i te hu
 have empty : ∀ {c : CT} {u : Value}, a90 u → (K (.ref L.length 0) (L ++ [.li c te false []])).run = some z → Jf P h0 W0 γ L h K z u h := by
  intro c u hn hk
  obtain ⟨a1, a2, a3⟩ := VQ H hn
  rw [show ([Obj.li none []] : List Obj) = [kQ (TO.li c te false [])] from rfl, ← jN] at a1 a2
  refine ⟨γ, _, _, hk, a1, a2, ?_⟩
  have : enc (.ref L.length 0) = .ref (eL L).length 0 0 0 := by rw [zW]; rfl
  rw [this, jN]
  exact a3
 have main : ∀ {c : CT} {xs : List c.T} {v : Value} {L' : List TO}, Hp P h0 W0 γ (eL L') h → Carry W0 γ (eL L) h γ (eL L') h → PR P (qe W0 γ (eL L') h) h (.sl c.size (xs.map (qT c))) v → szT P te = some c.size →
   0 ≤ lo.getD 0 → lo.getD 0 ≤ hi → hi = mx → mx.toNat ≤ xs.length → (Tree.cond (decide (lo.getD 0 = hi)) (K (.ref L.length 0) (L ++ [.li c te false []])) (K (.slx c ((xs.drop (lo.getD 0).toNat).take (hi.toNat - (lo.getD 0).toNat))) L')).run = some z →
   ∃ u, zo P (zd P h) t v vl vh vm = some u ∧ Jf P h0 W0 γ L h K z u h := by
  intro c xs v L' H' cc hp hs c1 c2 c3 c4 hk
  have hb := Xx (n := (xs.map (qT c)).length) b1 b2 b3 c1 c2 c3 (by simpa using c4)
  obtain ⟨u, s1, s2⟩ := VH hp hu hs hb
  refine ⟨u, s1, ?_⟩
  rcases s2 with ⟨q1, q2⟩ | ⟨q1, q2⟩
  ·rw [decide_eq_true (show lo.getD 0 = hi by omega)] at hk
   exact empty q2 hk
  ·rw [decide_eq_false (show ¬ lo.getD 0 = hi by omega)] at hk
   refine ⟨γ, _, _, hk, H', cc, ?_⟩
   rw [aiz, List.map_take, List.map_drop]
   exact q2
 split at e
 ·rename_i c xs
  split at e
  ·rename_i hs
   rw [qc] at e
   split at e
   ·rename_i hc
    exact main H (Carry.refl _ _ _) hx hs hc.1 hc.2.1 hc.2.2.1 hc.2.2.2 e
   ·cases e
  ·cases e
 ·replace e := qa e; obtain ⟨c, hc, e⟩ := e
  split at e
  ·rename_i hs
   rw [qc] at e
   split at e
   ·rename_i hq
    obtain ⟨q1, rfl, rfl⟩ := hq
    have : v = .slice none 0 0 := PR.scal (P := P) (S := qe W0 γ (eL L) h) (h := h) hx
    subst this
    have hb := Xx (n := 0) b1 b2 b3 (by omega) (by omega) rfl (by simp)
    rw [show (lo.getD 0).toNat = 0 by omega] at hb
    obtain ⟨u, s1, s2⟩ := uv (P := P) (h := h) (.inl rfl) hu hs hb
    exact ⟨u, s1, empty s2 e⟩
   ·cases e
  ·cases e
 ·rename_i id tot
  have hnone : ∀ {c : CT} {loc : Bool} {xs : List c.T} {q : TO}, L[id]? = some q → (q = .li c te loc xs ∨ q = .fz c te loc xs) → xs.length = tot → szT P te = some c.size → lo.getD 0 = hi → 0 ≤ lo.getD 0 → hi = mx → mx.toNat ≤ xs.length → (K (.ref L.length 0) (L ++ [.li c te false []])).run = some z →
    ∃ u, zo P (zd P h) t v vl vh vm = some u ∧ Jf P h0 W0 γ L h K z u h := by
   intro c loc xs q hq hqq ht hs q1 q2 q3 q4 hk
   have hdu : dud > maxLen := by decide
   have hun : unk > maxLen := by decide
   have hno : qN > maxLen := by decide
   have hil : (kQ q).isList (xs.map (qT c)) := by rcases hqq with rfl | rfl <;> exact rfl
   obtain ⟨k1, k2, k3⟩ := (show DB P (qe W0 γ (eL L) h) γ (eL L) h (.ref id 0 tot tot) v from hx)
   obtain ⟨m1, m2⟩ := k3 _ _ (zg hq) hil
   obtain ⟨m3, m4⟩ := m2 (by simpa using ht)
   have hb := Xx (n := tot) b1 b2 b3 q2 (by omega) q3 (by omega)
   have hb0 : (lo.getD 0).toNat = hi.toNat := by omega
   rcases m4 c.size (fun r hr => by obtain ⟨w, _, rfl⟩ := List.mem_map.1 hr; exact kF c w) with ⟨hv, t0, _⟩ | ⟨_, _, _, hv, n0, t0⟩ | ⟨b, o, cp, g, hv, d1, d2, d3⟩
   ·subst t0
    obtain ⟨u, s1, s2⟩ := uv (P := P) (h := h) hv hu hs hb
    exact ⟨u, s1, empty s2 hk⟩
   ·omega
   ·subst hv
    have hO := H.obj id _ (zg hq)
    have hrows : ∃ cs, h.get b = some (.cells cs te true) := by
     rcases hqq with rfl | rfl
     ·have hO' : OR P (qe W0 γ (eL L) h) γ (eL L) h id (.li (eo loc te xs.length) (xs.map (qT c))) := hO
      cases he : eo loc te xs.length with
      | none => rw [he] at hO'; rw [hO'.2] at g; cases g
      | some te' =>
       rw [he] at hO'
       obtain ⟨b', o', g', cs, zz, r1, _⟩ := hO'
       rw [g] at g'; cases g'
       have : te' = te := by
        unfold eo at he
        split at he
        ·cases he; rfl
        ·split at he
         ·cases he
         ·cases he; rfl
       subst this
       exact ⟨cs, r1⟩
     ·have hO' : OR P (qe W0 γ (eL L) h) γ (eL L) h id (.fz (eo loc te xs.length) (xs.map (qT c))) := hO
      cases he : eo loc te xs.length with
      | none => rw [he] at hO'; rw [hO'.2] at g; cases g
      | some te' =>
       rw [he] at hO'
       obtain ⟨b', o', g', _, cs, zz, r1, _⟩ := hO'
       rw [g] at g'; cases g'
       have : te' = te := by
        unfold eo at he
        split at he
        ·cases he; rfl
        ·split at he
         ·cases he
         ·cases he; rfl
       subst this
       exact ⟨cs, r1⟩
    obtain ⟨cs, r1⟩ := hrows
    have hcap : tot ≤ qX tot cp := by
     unfold qX
     rcases d3 with rfl | ⟨h1, h2⟩
     ·rw [if_pos rfl]; exact Nat.le_refl _
     ·rw [if_neg (by omega), if_neg (by omega), if_neg (by omega)]; exact h1
    obtain ⟨hbd, _, _, _⟩ := QE hcap hb
    unfold zo
    simp only [hu, hs, hbd]
    rw [if_neg d1, if_neg (by rintro ⟨_, _, q⟩; exact q (by unfold zd; rw [r1]; exact hs)), if_pos hb0.symm]
    exact ⟨_, rfl, empty (.inr ⟨_, _, by rw [hb0, Nat.sub_self]⟩) hk⟩
  split at e
  ·rename_i c e' loc xs hL
   split at e
   ·rename_i hc
    obtain ⟨hs, rfl⟩ := hc
    rw [qc] at e
    split at e
    ·rename_i hq
     obtain ⟨q0, q1, q2, q3, q4⟩ := hq
     by_cases hlh : lo.getD 0 = hi
     ·rw [decide_eq_true hlh] at e
      exact hnone hL (.inl rfl) q0 hs hlh q1 q3 q4 e
     ·have hi' : (eL L)[id]? = some (.li (eo loc e' xs.length) (xs.map (qT c))) := zg hL
      obtain ⟨H', cc⟩ := VX H hi'
      rw [show (eL L).set id (.fz (eo loc e' xs.length) (xs.map (qT c))) = eL (L.set id (.fz c e' loc xs)) from (QZ L id (.fz c e' loc xs)).symm] at H' cc
      have hlt : id < L.length := (List.getElem?_eq_some_iff.1 hL).1
      have hp : PR P (qe W0 γ (eL (L.set id (.fz c e' loc xs))) h) h (.sl c.size (xs.map (qT c))) v :=
       a2P H' (e := eo loc e' xs.length) (rows := xs.map (qT c)) (tot := tot) (zg (by rw [List.getElem?_set_self hlt])) (by simpa using q0) (UH hs) (cc.dc (d := .ref id 0 tot tot) hx)
      rw [decide_eq_false hlh] at e
      replace e : (Tree.cond (decide (lo.getD 0 = 0 ∧ hi = (tot : Int))) (K (.ref id tot) L) (K (.slx c ((xs.drop (lo.getD 0).toNat).take (hi.toNat - (lo.getD 0).toNat))) (L.set id (.fz c e' loc xs)))).run = some z := e
      by_cases h0t : lo.getD 0 = 0 ∧ hi = (tot : Int)
      ·rw [decide_eq_true h0t] at e
       obtain ⟨t1, t2⟩ := h0t
       have hb := Xx (n := tot) b1 b2 b3 q1 q2 q3 (by omega)
       have hpos : 0 < tot := by omega
       have hro : zT (eL L) id tot = some (xs.map (qT c)) := by
        unfold zT
        rw [hi']
        simp only
        rw [if_pos (by simpa using q0)]
       have hlt' : ((eL L)[id]?.bind y9).bind (szT P) = some c.size := by
        rw [hi']
        show (eo loc e' xs.length).bind (szT P) = _
        have : eo loc e' xs.length = some e' := by
         unfold eo
         cases loc
         ·rw [if_neg (by decide), if_neg (by omega)]
         ·rfl
        rw [this]
        exact hs
       have hd : wA P (eL L) t (.ref id 0 tot tot) vl vh vm = some (.ref id 0 tot tot) := by
        unfold wA
        simp only [hu, hs, hro, hb, hlt']
        rw [if_pos ⟨trivial, hpos⟩]
        have e1 : (lo.getD 0).toNat = 0 := by omega
        have e2 : hi.toNat = tot := by omega
        rw [e1, e2]
        rfl
       obtain ⟨u, u1, u2⟩ := Qw H (x := .ref id 0 tot tot) hx hd
       exact ⟨u, u1, γ, _, _, e, H, Carry.refl _ _ _, u2⟩
      ·rw [decide_eq_false h0t] at e
       refine main H' cc hp hs q1 q2 q3 q4 ?_
       rw [decide_eq_false hlh]
       exact e
    ·cases e
   ·cases e
  ·rename_i c e' loc xs hL
   split at e
   ·rename_i hc
    obtain ⟨hs, rfl⟩ := hc
    rw [qc] at e
    split at e
    ·rename_i hq
     obtain ⟨q0, q1, q2, q3, q4⟩ := hq
     by_cases hlh : lo.getD 0 = hi
     ·rw [decide_eq_true hlh] at e
      exact hnone hL (.inr rfl) q0 hs hlh q1 q3 q4 e
     ·have hp : PR P (qe W0 γ (eL L) h) h (.sl c.size (xs.map (qT c))) v :=
       a2P H (e := eo loc e' xs.length) (rows := xs.map (qT c)) (tot := tot) (zg hL) (by simpa using q0) (UH hs) hx
      exact main H (Carry.refl _ _ _) hp hs q1 q2 q3 q4 e
    ·cases e
   ·cases e
  ·cases e
 ·cases e
end
open Go.RowKit
section
variable {R : Type}
def agN (P : Program) (ts : List TypeId) (L : List TO) (c : CT) (xs : List c.T) (x : TV) (K : TV → List TO → Tree R) : Tree R :=
 match ts with
 | [t, t2] => match P.underlying t with
  | some (.slice e) => qt (P.info? e) fun i => qt (za P e) fun _ => if c.size = i.size ∧ 0 < i.bytes then
    a6H P L c t2 x fun ys => tif (xs.length + ys.length ≤ lim i.bytes) (.cond (decide (ys.length = 0)) (K (.slx c xs) L) (K (.ref L.length (xs.length + ys.length)) (L ++ [.li c e false (xs ++ ys)])))
   else .fail
  | _ => .fail
 | _ => .fail
def ahs (P : Program) (ty : TypeId → Option CT) (L : List TO) (t : TypeId) (a b : Int) (K : TV → List TO → Tree R) : Tree R :=
 match P.underlying t with
 | some (.slice e) => qt (ty e) fun c => qt ((xW P e).bind (a59 c)) fun zz => qt (P.info? e) fun i => if c.size = i.size ∧ 0 < i.bytes then
   tif (0 ≤ a ∧ a = b ∧ a.toNat ≤ lim i.bytes) (K (.ref L.length a.toNat) (L ++ [.li c e true (List.replicate a.toNat zz)])) else .fail
 | _ => .fail
def aiq (c : CT) : Nat → Nat → List c.T → List TV → (List TV → Tree R) → Tree R
 | 0, _, _, cells, K => K cells
 | n + 1, off, ys, cells, K => Wj ys[0]? fun y => aiq c n (off + 1) (ys.drop 1) (jH cells off (tvC c y)) K
def ahI (P : Program) (ty : TypeId → Option CT) (L : List TO) (ts : List TypeId) (d x : TV) (K : TV → List TO → Tree R) : Tree R :=
 match ts with
 | [t, t2] => match P.underlying t with
  | some (.slice e) => match d with
   | .v (.slice none 0 0) => qt (ty e) fun c => if szT P e = some c.size then a6H P L c t2 x fun ys => tif (ys.length = 0) (K (.v (goInt (0 : Nat))) L) else .fail
   | .ref id tot => match L[id]? with
    | some (.li c e' loc xs) => if szT P e = some c.size ∧ e' = e then a6H P L c t2 x fun ys => tif (xs.length = tot ∧ ys.length ≤ tot) (K (.v (goInt ys.length)) (L.set id (.li c e loc (ys ++ xs.drop ys.length)))) else .fail
    | _ => .fail
   | .aref id off n => match L[id]? with
    | some (.st cells) => qt (ty e) fun c => if szT P e = some c.size ∧ c.size = 1 ∧ off + n ≤ cells.length then a6H P L c t2 x fun ys =>
      W2 (ys.length : Int) (n + 1) fun k => aiq c k off ys cells fun cells' => K (.v (goInt k)) (L.set id (.st cells')) else .fail
    | _ => .fail
   | _ => .fail
  | _ => .fail
 | _ => .fail
variable {P : Program} {γ : Pl} {L : List TO} {h : Heap} {h0 : Heap} {W0 : Ent} {z : R} {K : TV → List TO → Tree R}
theorem XF (id tot : Nat) : enc (.ref id tot) = .ref id 0 tot tot := rfl
theorem xq {ts : List TypeId} {c : CT} {xs : List c.T} {x : TV} {v w : Value} (H : Hp P h0 W0 γ (eL L) h) (hv : DR P (qe W0 γ (eL L) h) γ (eL L) h (enc (.slx c xs)) v) (hx : DR P (qe W0 γ (eL L) h) γ (eL L) h (enc x) w)
  (e : (agN P ts L c xs x K).run = some z) : ∃ u h', jf P ts h v w = some (u, h') ∧ Jf P h0 W0 γ L h K z u h' ∧ ∀ b, b < h.next → h'.get b = h.get b := by
 unfold agN at e
 split at e
 case h_2 => cases e
 rename_i t t2
 split at e
 case h_2 => cases e
 rename_i te hu
 replace e := qa e; obtain ⟨i, hi, e⟩ := e
 replace e := qa e; obtain ⟨zc, hz, e⟩ := e
 split at e
 case isFalse => cases e
 rename_i hsz
 replace e := QS e; obtain ⟨ys, hy, e⟩ := e
 rw [qc] at e
 split at e
 case isFalse => cases e
 rename_i hl
 obtain ⟨l1, l2⟩ := a4d hl hsz.2
 have h0z : 0 < i.size := by rw [← hsz.1]; exact CT.size_pos c
 rw [hsz.1] at hy
 have hcx : CxV P (qe W0 γ (eL L) h) h i.size (xs.map (qT c)) v := by rw [← hsz.1]; exact hv
 rcases adY H hu hi hz hcx hx hy h0z (by simpa using l1) (by simpa using l2) with ⟨hys, ha⟩ | ⟨hpos, cs, ha, γ', a1, a2, a3⟩
 ·have : ys.length = 0 := by have := congrArg List.length hys; simpa using this
  rw [decide_eq_true this] at e
  exact ⟨v, h, ha, ⟨γ, _, _, e, H, Carry.refl _ _ _, hv⟩, fun _ _ => rfl⟩
 ·rw [decide_eq_false (by simp at hpos; omega)] at e
  refine ⟨_, _, ha, ⟨γ', _, _, e, ?_, ?_, ?_⟩, fun b hb => Heap.get_push_ne _ _ (by omega)⟩
  all_goals
   have hO : kQ (.li c te false (xs ++ ys)) = .li (some te) (xs.map (qT c) ++ ys.map (qT c)) := by
    show Obj.li (eo false te (xs ++ ys).length) _ = _
    have : eo false te (xs ++ ys).length = some te := by
     unfold eo
     rw [if_neg (by decide), if_neg (by rw [List.length_append]; rw [List.length_map] at hpos; omega)]
    rw [this, List.map_append]
  ·rw [jN, hO]; exact a1
  ·rw [jN, hO]; exact a2
  ·rw [jN, hO, XF, ← zW L]
   simpa using a3
theorem a5t {ty : TypeId → Option CT} {t : TypeId} {a b : Int} {ka kb : IntKind} (H : Hp P h0 W0 γ (eL L) h) (e : (ahs P ty L t a b K).run = some z) :
  ∃ q mk, Z9 P t (.int ka a) (.int kb b) = some (q, mk) ∧ Jf P h0 W0 γ L h K z (mk h.next) (h.push q) := by
 unfold ahs at e
 split at e
 case h_2 => cases e
 rename_i te hu
 replace e := qa e; obtain ⟨c, hc, e⟩ := e
 replace e := qa e; obtain ⟨z0, hz0, e⟩ := e
 replace e := qa e; obtain ⟨i, hi, e⟩ := e
 split at e
 case isFalse => cases e
 rename_i hsz
 rw [qc] at e
 split at e
 case isFalse => cases e
 rename_i hq
 obtain ⟨q1, rfl, q3⟩ := hq
 obtain ⟨l1, l2⟩ := a4d q3 hsz.2
 have h0z : 0 < i.size := by rw [← hsz.1]; exact CT.size_pos c
 cases hzt : xW P te with
 | none => rw [hzt] at hz0; cases hz0
 | some zc =>
  rw [hzt] at hz0
  obtain ⟨zr, p1, p2⟩ := V5 (show a59 c zc = some z0 from hz0)
  have hzd : Yj P te = some (zc.map qy) := by rw [vf, hzt]; rfl
  obtain ⟨zs, z1, z2⟩ := ZE (P := P) (S := qe W0 γ (eL L) h) (γ := γ) (L := eL L) (h := h) hzd
  have hpv : All2 (PR P (qe W0 γ (eL L) h) h) zr zs := QB z2 (XK p1)
  have hzl : zs.length = i.size := by rw [← hpv.length, ← p2.length, kF, hsz.1]
  have hszT : szT P te = some i.size := by unfold szT; rw [hi]; rfl
  have hf := UO hpv a.toNat
  rw [hzl] at hf
  have hlen : (List.replicate a.toNat zr).length = a.toNat := List.length_replicate
  obtain ⟨γ', a1, a2, a3⟩ := UW H (te := te) (c := a.toNat) hszT h0z (rows := List.replicate a.toNat zr) (cs := wu zs a.toNat) (by rw [hf.len]; exact Nat.le_refl _) (by rw [hlen]; exact l1) hf.wide hf.get (.inr ⟨by rw [hlen]; exact Nat.le_refl _, l1⟩)
  refine ⟨.cells (wu zs a.toNat) te true, qz a.toNat a.toNat, ?_, ?_⟩
  ·unfold Z9
   simp only [hu, WG q1, z1, hi]
   rw [if_pos ⟨Nat.le_refl _, by rw [Nat.mul_comm]; omega, l1, h0z⟩]
  ·obtain ⟨b', c3⟩ := a2M a1 (id := (eL L).length) (e := some te) (rows := List.replicate a.toNat zr) (rows' := (List.replicate a.toNat z0).map (qT c)) (by simp) (.inr (by rw [List.map_replicate]; exact UG p2 _))
   have he : (eL L ++ [Obj.li (some te) (List.replicate a.toNat zr)]).set (eL L).length (.li (some te) ((List.replicate a.toNat z0).map (qT c))) = eL (L ++ [.li c te true (List.replicate a.toNat z0)]) := by
    rw [jN, List.set_append_right _ _ (Nat.le_refl _)]
    simp [kQ, eo]
   rw [he] at b' c3
   refine ⟨γ', _, _, e, b', a2.trans' c3, ?_⟩
   have := c3.dr a3
   rw [hlen] at this
   rw [XF, ← zW L]
   exact this
end
open Go.RowKit
section
variable {R : Type} {P : Program} {γ : Pl} {L : List TO} {h : Heap} {h0 : Heap} {W0 : Ent} {z : R} {K : TV → List TO → Tree R}
theorem ajW {Lo : List Obj} (H : Hp P h0 W0 γ Lo h) {id tot s : Nat} {t t2 te : TypeId} {eo' : Option TypeId} {rows ys : List (List PV)} {x : DV} {v w : Value} (hu : P.underlying t = some (.slice te)) (hs : szT P te = some s)
  (hi : Lo[id]? = some (.li eo' rows)) (heo : ∀ te', eo' = some te' → te' = te) (ht : rows.length = tot) (hd : DR P (qe W0 γ Lo h) γ Lo h (.ref id 0 tot tot) v) (hx : DR P (qe W0 γ Lo h) γ Lo h x w) (hy : a4s P Lo s t2 x = some ys) (hle : ys.length ≤ tot) :
  ∃ h', Yl P [t, t2] h v w = some (goInt ys.length, h') ∧ Hp P h0 W0 γ (Lo.set id (.li eo' (ys ++ rows.drop ys.length))) h' ∧ Carry W0 γ Lo h γ (Lo.set id (.li eo' (ys ++ rows.drop ys.length))) h' := by
 obtain ⟨cs, hsrc, hf⟩ := yx H hx hy
 have hlt : id < Lo.length := (List.getElem?_eq_some_iff.1 hi).1
 have same : Lo.set id (.li eo' rows) = Lo := by
  refine List.ext_getElem? fun j => ?_
  by_cases hj : j = id
  ·subst hj; rw [List.getElem?_set_self hlt, hi]
  ·rw [List.getElem?_set_ne (Ne.symm hj)]
 unfold Yl
 simp only [hu, hs, hsrc]
 by_cases h0y : ys.length = 0
 ·have hys : ys = [] := List.length_eq_zero_iff.1 h0y
  subst hys
  have hl : Lo.set id (.li eo' ([] ++ rows.drop ([] : List (List PV)).length)) = Lo := by simpa using same
  rw [hl]
  refine ⟨h, ?_, H, Carry.refl _ _ _⟩
  obtain ⟨k1, k2, k3⟩ := (show DB P (qe W0 γ Lo h) γ Lo h (.ref id 0 tot tot) v from hd)
  obtain ⟨_, m2⟩ := k3 _ rows hi rfl
  obtain ⟨_, m4⟩ := m2 ht
  obtain ⟨z0, hz0⟩ := H.width hi rfl
  rcases m4 z0 hz0 with ⟨rfl | ⟨b, o, rfl⟩, _⟩ | ⟨b, o, c, rfl, _⟩ | ⟨b, o, c, _, rfl, _⟩ <;> simp
 ·obtain ⟨k1, k2, k3⟩ := (show DB P (qe W0 γ Lo h) γ Lo h (.ref id 0 tot tot) v from hd)
  obtain ⟨_, m2⟩ := k3 _ rows hi rfl
  obtain ⟨_, m4⟩ := m2 ht
  have ho := H.obj id _ hi
  cases eo' with
  | none =>
   obtain ⟨rfl, _⟩ := ho
   simp at ht; omega
  | some te' =>
   have := heo te' rfl
   subst this
   obtain ⟨b, o, g1, cs0, zz, r1, r2, r3, r4, r5, r6, r7⟩ := ho
   have hzs : zz = s := by rw [hs] at r2; cases r2; rfl
   subst hzs
   rcases m4 _ r6 with ⟨_, h1, _⟩ | ⟨_, _, _, _, h1, h2⟩ | ⟨b', o', c, g, rfl, d1, d2, d3⟩
   ·omega
   ·omega
   ·rw [g1] at g; cases g
    simp only [Nat.zero_mul, Nat.add_zero]
    rw [if_neg h0y, if_pos hle]
    simp only [r1]
    have hmul : ys.length * zz ≤ rows.length * zz := Nat.mul_le_mul_right _ (by omega)
    have hfl : cs.length = ys.length * zz := hf.len
    rw [if_pos (by omega)]
    have hlen : (ys ++ rows.drop ys.length).length = rows.length := by simp; omega
    have hw' : ∀ r ∈ ys ++ rows.drop ys.length, r.length = zz := by
     intro r hr
     rcases List.mem_append.1 hr with hr | hr
     ·exact hf.wide r hr
     ·exact r6 r (List.mem_of_mem_drop hr)
    obtain ⟨a1, a2⟩ := a72 H (rows' := ys ++ rows.drop ys.length) (cs' := qR cs0 o cs) hi g1 r1 hlen r6 hw' r2 r3 (by rw [W3]; exact r4) r5 (fun i r j x' u e1 e2 e3 => by
     have hj : j < zz := by
      have := hw' r (List.mem_of_getElem? e1)
      rw [← this]; exact (List.getElem?_eq_some_iff.1 e2).1
     rw [ZH _ _ _ _ (by omega)] at e3
     by_cases hiy : i < ys.length
     ·rw [List.getElem?_append_left hiy] at e1
      have hlt2 : i * zz + j < ys.length * zz := by
       have : (i + 1) * zz ≤ ys.length * zz := Nat.mul_le_mul_right _ hiy
       rw [Nat.succ_mul] at this; omega
      rw [if_pos (by omega), show o + i * zz + j - o = i * zz + j by omega] at e3
      exact hf.get i r j x' u e1 e2 e3
     ·rw [List.getElem?_append_right (by omega), List.getElem?_drop, show ys.length + (i - ys.length) = i by omega] at e1
      have hge : ys.length * zz ≤ i * zz := Nat.mul_le_mul_right _ (by omega)
      rw [if_neg (by omega)] at e3
      exact r7 i r j x' u e1 e2 e3)
    exact ⟨_, rfl, a1, a2⟩
theorem a2k {c : CT} (h1 : c.size = 1) : ∀ {k off : Nat} {ys : List c.T} {cells : List TV} {R : Type} {Kc : List TV → Tree R} {z : R}, (aiq c k off ys cells Kc).run = some z → ys.length = k → (Kc (jH cells off (ys.flatMap (tvC c)))).run = some z
 | 0, off, ys, cells, R, Kc, z, e, hl => by
  have : ys = [] := List.length_eq_zero_iff.1 hl
  subst this
  exact e
 | k + 1, off, ys, cells, R, Kc, z, e, hl => by
  cases ys with
  | nil => cases hl
  | cons y ys =>
   unfold aiq at e
   obtain ⟨y', hy, e⟩ := kL e
   cases hy
   have := a2k h1 e (by simpa using hl)
   obtain ⟨a, ha⟩ : ∃ a, tvC c y = [a] := List.length_eq_one_iff.1 (by rw [a4R, h1])
   simp only [List.drop_succ_cons, List.drop_zero] at this
   rw [List.flatMap_cons, ha, List.singleton_append]
   rw [ha] at this
   exact this
theorem a70 {ty : TypeId → Option CT} {ts : List TypeId} {d x : TV} {v w : Value} (H : Hp P h0 W0 γ (eL L) h) (hd : DR P (qe W0 γ (eL L) h) γ (eL L) h (enc d) v) (hx : DR P (qe W0 γ (eL L) h) γ (eL L) h (enc x) w)
  (e : (ahI P ty L ts d x K).run = some z) : ∃ u h', Yl P ts h v w = some (u, h') ∧ Jf P h0 W0 γ L h K z u h' := by
 unfold ahI at e
 split at e
 case h_2 => cases e
 rename_i t t2
 split at e
 case h_2 => cases e
 rename_i te hu
 split at e
 ·replace e := qa e; obtain ⟨c, hc, e⟩ := e
  split at e
  case isFalse => cases e
  rename_i hs
  replace e := QS e; obtain ⟨ys, hy, e⟩ := e
  rw [qc] at e
  split at e
  case isFalse => cases e
  rename_i hl
  have hys : ys = [] := List.length_eq_zero_iff.1 hl
  subst hys
  obtain ⟨cs, hsrc, hf⟩ := yx H hx hy
  have : v = .slice none 0 0 := PR.scal (P := P) (S := qe W0 γ (eL L) h) (h := h) hd
  subst this
  refine ⟨goInt (0 : Nat), h, ?_, ⟨γ, _, _, e, H, Carry.refl _ _ _, PR.v rfl⟩⟩
  unfold Yl
  simp only [hu, hs, hsrc]
  simp
 ·rename_i id tot
  split at e
  case h_2 => cases e
  rename_i c e' loc xs hL
  split at e
  case isFalse => cases e
  rename_i hc
  obtain ⟨hs, rfl⟩ := hc
  replace e := QS e; obtain ⟨ys, hy, e⟩ := e
  rw [qc] at e
  split at e
  case isFalse => cases e
  rename_i hq
  obtain ⟨q1, q2⟩ := hq
  obtain ⟨h', a1, a2, a3⟩ := ajW H (rows := xs.map (qT c)) (ys := ys.map (qT c)) (tot := tot) hu hs (zg hL) (fun te' he => by
   unfold eo at he
   split at he
   ·cases he; rfl
   ·split at he
    ·cases he
    ·cases he; rfl) (by simpa using q1) hd hx hy (by simpa using q2)
  have hset : (eL L).set id (.li (eo loc e' xs.length) (ys.map (qT c) ++ (xs.map (qT c)).drop (ys.map (qT c)).length)) = eL (L.set id (.li c e' loc (ys ++ xs.drop ys.length))) := by
   rw [QZ]
   congr 1
   show Obj.li _ _ = Obj.li _ _
   have : (ys ++ xs.drop ys.length).length = xs.length := by simp; omega
   rw [this, List.map_append, List.map_drop, List.length_map]
  rw [hset] at a2 a3
  rw [List.length_map] at a1
  exact ⟨_, h', a1, γ, _, _, e, a2, a3, PR.v rfl⟩
 ·rename_i id off n
  split at e
  case h_2 => cases e
  rename_i cells hL
  replace e := qa e; obtain ⟨c, hc, e⟩ := e
  split at e
  case isFalse => cases e
  rename_i hcc
  obtain ⟨hs, h1, hoff⟩ := hcc
  replace e := QS e; obtain ⟨ys, hy, e⟩ := e
  obtain ⟨k, k1, k2, e⟩ := jy e
  have hk : ys.length = k := by omega
  have e2 := a2k h1 e hk
  obtain ⟨cs, hsrc, hf⟩ := yx H hx hy
  obtain ⟨b, g, ⟨c0, hc0⟩, rfl⟩ := (show DB P (qe W0 γ (eL L) h) γ (eL L) h (.aref id off n) v from hd)
  have hi : (eL L)[id]? = some (.st (cells.map qy)) := zg hL
  have hO := H.obj id _ hi
  obtain ⟨b', te', vs, g', hb, hall⟩ := hO
  rw [g] at g'; cases g'
  have hlt : id < L.length := (List.getElem?_eq_some_iff.1 hL).1
  have hvl : vs.length = cells.length := by rw [← hall.length]; simp
  rw [h1] at hs hf hsrc
  rw [List.length_map, hk] at hsrc
  have hcs : cs.length = k := by rw [hf.len, Nat.mul_one, List.length_map, hk]
  have hcells : All2 (DC P (qe W0 γ (eL L) h) γ (eL L) h) ((ys.flatMap (tvC c)).map qy) cs := by
   refine All2.of_get ?_ fun i a b2 ha hb2 => ?_
   ·rw [List.length_map, List.length_flatMap, hcs, ← hk]
    have : ∀ l : List c.T, (l.map fun y => (tvC c y).length).sum = l.length := by
     intro l
     induction l with
     | nil => rfl
     | cons y l ih => rw [List.map_cons, List.sum_cons, ih, a4R, h1, List.length_cons, Nat.add_comm]
    exact this ys
   ·have hil : i < ys.length := by
     have := (List.getElem?_eq_some_iff.1 hb2).1
     omega
    obtain ⟨y, hyi⟩ : ∃ y, ys[i]? = some y := ⟨_, List.getElem?_eq_getElem hil⟩
    have hfm : ∀ (l : List c.T) (i : Nat) (y : c.T), l[i]? = some y → ((l.flatMap (tvC c)).map qy)[i]? = ((tvC c y).map qy)[0]? := by
     intro l
     induction l with
     | nil => intro i y q; simp at q
     | cons y0 l ih =>
      intro i y q
      obtain ⟨a0, ha0⟩ : ∃ a, tvC c y0 = [a] := List.length_eq_one_iff.1 (by rw [a4R, h1])
      rw [List.flatMap_cons, ha0, List.singleton_append, List.map_cons]
      cases i with
      | zero => simp at q; subst q; rw [ha0]; rfl
      | succ i => rw [List.getElem?_cons_succ]; exact ih i y (by simpa using q)
    rw [hfm ys i y hyi, ZB] at ha
    have hrow : (ys.map (qT c))[i]? = some (qT c y) := by rw [List.getElem?_map, hyi]; rfl
    obtain ⟨p, hp⟩ : ∃ p, qT c y = [p] := List.length_eq_one_iff.1 (by rw [kF, h1])
    rw [hp] at ha hrow
    cases ha
    exact hf.get i [p] 0 p b2 hrow rfl (by simpa using hb2)
  unfold Yl
  simp only [hu, hs, hsrc]
  by_cases h0k : k = 0
  ·rw [if_pos h0k]
   subst h0k
   have hys : ys = [] := List.length_eq_zero_iff.1 hk
   subst hys
   have hset : L.set id (.st (jH cells off (([] : List c.T).flatMap (tvC c)))) = L := by
    refine List.ext_getElem? fun j => ?_
    by_cases hj : j = id
    ·subst hj; rw [List.getElem?_set_self hlt, hL]; rfl
    ·rw [List.getElem?_set_ne (Ne.symm hj)]
   rw [hset] at e2
   exact ⟨_, _, rfl, γ, _, _, e2, H, Carry.refl _ _ _, PR.v rfl⟩
  ·rw [if_neg h0k, if_pos (by omega)]
   simp only [hb]
   rw [if_pos (by omega)]
   obtain ⟨a1, a2⟩ := a7Q H (cells' := j6 (cells.map qy) off ((ys.flatMap (tvC c)).map qy)) (vs' := qR vs off cs) hi g hb (Qx hall hcells)
   have hset : (eL L).set id (.st (j6 (cells.map qy) off ((ys.flatMap (tvC c)).map qy))) = eL (L.set id (.st (jH cells off (ys.flatMap (tvC c))))) := by
    rw [QZ]
    congr 1
    show Obj.st _ = Obj.st _
    rw [Zw]
   rw [hset] at a1 a2
   exact ⟨_, _, rfl, γ, _, _, e2, a1, a2, PR.v rfl⟩
 ·cases e
end
open Go.RowKit
section
variable {R : Type}
def a4L (P : Program) (ty : TypeId → Option CT) (L : List TO) (t : TypeId) (x : TV) (lo hi : Option Int) (K : TV → List TO → Tree R) : Tree R :=
 match P.underlying t with
 | some (.array n e) => match x with
  | .ptr id off => qt (szT P e) fun s => if n ≤ maxLen then W2 (hi.getD n) (n + 1) fun r => W2 (lo.getD 0) (r + 1) fun l => match decide (l < n) with
   | true => K (.aref id (off + l * s) (r - l)) L
   | false => qt (ty e) fun c => K (.ref L.length 0) (L ++ [.li c e false []]) else .fail
  | _ => .fail
 | some (.slice e) => match x with
  | .aref id off n => qt (szT P e) fun s => W2 (hi.getD n) (n + 1) fun r => W2 (lo.getD 0) (r + 1) fun l => match decide (l < n) with
   | true => K (.aref id (off + l * s) (r - l)) L
   | false => .fail
  | _ => .fail
 | _ => .fail
def ams : Option TV → Bool
 | some (.ptr _ _) => true
 | some (.aref _ _ _) => true
 | _ => false
def a5g (P : Program) (ty : TypeId → Option CT) (call : yt R) (o : Op) (ρ : KM) (L : List TO) (K : TV → List TO → Tree R) : Tree R :=
 match o with
 | .slice t x lo (some hi) (some mx) => qt (ρ x) fun x => qt (a0y ρ lo) fun lo => qt (a0y ρ (some hi)) fun hi => qt (a0y ρ (some mx)) fun mx => match hi, mx with
  | some hi, some mx => a4F P ty L t x lo hi mx K
  | _, _ => .fail
 | .slice t x lo hi none => match ams (ρ x) with
  | true => qt (ρ x) fun x => qt (a0y ρ lo) fun lo => qt (a0y ρ hi) fun hi => a4L P ty L t x lo hi K
  | false => vk P ty call (.slice t x lo hi none) ρ L K
 | .makeSlice t l c => match ρ l, ρ c with
  | some (.v (.int _ a)), some (.v (.int _ b)) => ahs P ty L t a b K
  | _, _ => .fail
 | .index t x i => match P.underlying t, ρ x, ρ i with
  | some (.array n e), some (.agg cs), some (.v (.int _ j)) => qt (szT P e) fun s => W2 j n fun m => qt (J3 P e cs (m * s)) fun d => K d L
  | _, _, _ => vk P ty call (.index t x i) ρ L K
 | .indexAddr t x i => match P.underlying t, ρ x, ρ i with
  | some (.array n e), some (.ptr id off), some (.v (.int _ j)) => qt (szT P e) fun s => W2 j n fun m => K (.ptr id (off + m * s)) L
  | some (.slice e), some (.aref id off n), some (.v (.int _ j)) => qt (szT P e) fun s => W2 j n fun m => K (.ptr id (off + m * s)) L
  | _, _, _ => vk P ty call (.indexAddr t x i) ρ L K
 | .call { callee := .builtin .copy, args := args, argTypes := ts } => qt (YM ρ args.toList) fun ds => match ds with
  | [d, x] => ahI P ty L ts.toList d x K
  | _ => .fail
 | .call { callee := .builtin .append, args := args, argTypes := ts } => match YM ρ args.toList with
  | some [.slx c xs, x] => agN P ts.toList L c xs x K
  | _ => vk P ty call (.call { callee := .builtin .append, args := args, argTypes := ts }) ρ L K
 | o => vk P ty call o ρ L K
variable {P : Program} {γ : Pl} {L : List TO} {h : Heap} {h0 : Heap} {W0 : Ent} {z : R} {K : TV → List TO → Tree R}
theorem abZ {lo hi : Option Int} {n l r : Nat} {vl vh : Option Value} (b1 : BdV lo vl) (b2 : BdV hi vh) (h1 : hi.getD n = r) (h2 : lo.getD 0 = l) (h3 : l ≤ r) (h4 : r ≤ n) : qK n n vl vh none = some (l, r, none) := by
 unfold qK
 cases hi with
 | none =>
  have hr : r = n := by simp at h1; omega
  subst hr
  cases vh with
  | some _ => cases b2
  | none =>
   simp only
   cases lo with
   | none =>
    have hl : l = 0 := by simp at h2; omega
    subst hl
    cases vl with
    | none => rfl
    | some _ => cases b1
   | some q =>
    obtain ⟨k1, rfl⟩ := Kd b1
    simp only [Option.getD_some] at h2
    subst h2
    simp only [WG (show (0 : Int) ≤ (l : Int) by omega), Int.toNat_natCast]
    rw [if_pos h3]
 | some q =>
  obtain ⟨k1, rfl⟩ := Kd b2
  simp only [Option.getD_some] at h1
  subst h1
  simp only [WG (show (0 : Int) ≤ (r : Int) by omega), Int.toNat_natCast]
  rw [if_pos h4]
  cases lo with
  | none =>
   have hl : l = 0 := by simp at h2; omega
   subst hl
   cases vl with
   | none => rfl
   | some _ => cases b1
  | some q =>
   obtain ⟨k2, rfl⟩ := Kd b1
   simp only [Option.getD_some] at h2
   subst h2
   simp only [WG (show (0 : Int) ≤ (l : Int) by omega), Int.toNat_natCast]
   rw [if_pos h3]
theorem a1s {ty : TypeId → Option CT} {t : TypeId} {x : TV} {lo hi : Option Int} {vl vh : Option Value} {v : Value} (H : Hp P h0 W0 γ (eL L) h) (hx : DR P (qe W0 γ (eL L) h) γ (eL L) h (enc x) v) (b1 : BdV lo vl) (b2 : BdV hi vh)
  (e : (a4L P ty L t x lo hi K).run = some z) : ∃ u, zo P (zd P h) t v vl vh none = some u ∧ Jf P h0 W0 γ L h K z u h := by
 unfold a4L at e
 split at e
 ·rename_i n te hu
  split at e
  case h_2 => cases e
  rename_i id off
  replace e := qa e; obtain ⟨s, hs, e⟩ := e
  split at e
  case isFalse => cases e
  rename_i hn
  obtain ⟨r, r1, r2, e'⟩ := jy e
  clear e
  obtain ⟨l, l1, l2, e⟩ := jy e'
  clear e'
  have hb := abZ b1 b2 r2 l2 (by omega) (by omega)
  by_cases hl : l < n
  ·rw [decide_eq_true hl] at e
   have hd : wA P (eL L) t (.ptr id off) vl vh none = some (.aref id (off + l * s) (r - l)) := by
    unfold wA
    simp only [hu, hs, hb]
    rw [if_pos ⟨hl, hn⟩]
   obtain ⟨u, u1, u2⟩ := Qw H (x := .ptr id off) hx hd
   exact ⟨u, u1, γ, _, _, e, H, Carry.refl _ _ _, u2⟩
  ·rw [decide_eq_false hl] at e
   replace e := qa e; obtain ⟨c, hc, e⟩ := e
   obtain ⟨b, g, hst, rfl⟩ := (show DB P (qe W0 γ (eL L) h) γ (eL L) h (.ptr id off) v from hx)
   have hln : l = n := by omega
   have hrn : r = n := by omega
   subst hln hrn
   refine ⟨.slice (some ⟨b, off, none⟩) 0 0, ?_, ?_⟩
   ·unfold zo
    simp only [hu, hs, hb, Option.getD_none, Nat.sub_self]
    rw [if_pos hn, if_pos trivial]
   ·obtain ⟨a1, a2, a3⟩ := VQ H (v := .slice (some ⟨b, off, none⟩) 0 0) (.inr ⟨_, _, rfl⟩)
    rw [show ([Obj.li none []] : List Obj) = [kQ (TO.li c te false [])] from rfl, ← jN] at a1 a2
    refine ⟨γ, _, _, e, a1, a2, ?_⟩
    rw [XF, jN, ← zW L]
    exact a3
 ·rename_i te hu
  split at e
  case h_2 => cases e
  rename_i id off n
  replace e := qa e; obtain ⟨s, hs, e⟩ := e
  obtain ⟨r, r1, r2, e'⟩ := jy e
  clear e
  obtain ⟨l, l1, l2, e⟩ := jy e'
  clear e'
  have hb := abZ b1 b2 r2 l2 (by omega) (by omega)
  by_cases hl : l < n
  ·rw [decide_eq_true hl] at e
   have hd : wA P (eL L) t (.aref id off n) vl vh none = some (.aref id (off + l * s) (r - l)) := by
    unfold wA
    simp only [hu, hs, hb]
    rw [if_pos hl]
   obtain ⟨u, u1, u2⟩ := Qw H (x := .aref id off n) hx hd
   exact ⟨u, u1, γ, _, _, e, H, Carry.refl _ _ _, u2⟩
  ·rw [decide_eq_false hl] at e
   cases e
 ·cases e
theorem ac3 {ρ : KM} {r : Rho} (hρ : xb P W0 γ (eL L) h (ZS ρ) r) {x : Operand} {k : IntKind} {n : Int} (e : ρ x = some (.v (.int k n))) : r x = some (.int k n) := by
 obtain ⟨v, e1, r1⟩ := ky hρ e
 have : v = .int k n := PR.scal (P := P) (S := qe W0 γ (eL L) h) (h := h) r1
 rw [e1, this]
theorem vG {ρ : KM} {r : Rho} (hρ : xb P W0 γ (eL L) h (ZS ρ) r) {x : Option Operand} {n : Option Int} (h : a0y ρ x = some n) : ∃ v, jV r x = some v ∧ BdV n v := by
 obtain ⟨v, h1, h2⟩ := a3R h
 exact ⟨v, KB hρ h1, h2⟩
theorem UI {ty : TypeId → Option CT} {call : yt R} {wr : TWr} (hcall : TCallOk P call wr) {o : Op} {ρ : KM} {r : Rho} (H : Hp P h0 W0 γ (eL L) h) (hρ : xb P W0 γ (eL L) h (ZS ρ) r) (e : (a5g P ty call o ρ L K).run = some z) : qG P o r h (Jf P h0 W0 γ L h K z) := by
 unfold a5g at e
 split at e
 ·rename_i t x lo hi mx
  replace e := qa e; obtain ⟨x', h1, e⟩ := e
  replace e := qa e; obtain ⟨lo', h2, e⟩ := e
  replace e := qa e; obtain ⟨hi', h3, e⟩ := e
  replace e := qa e; obtain ⟨mx', h4, e⟩ := e
  split at e
  case h_2 => cases e
  obtain ⟨v, v1, v2⟩ := ky hρ h1
  obtain ⟨vl, l1, l2⟩ := vG hρ h2
  obtain ⟨vh, l3, l4⟩ := vG hρ h3
  obtain ⟨vm, l5, l6⟩ := vG hρ h4
  obtain ⟨u, u1, u2⟩ := a0k H v2 l2 l4 l6 e
  simp only [qG, v1, l1, l3, l5, u1]
  exact u2
 ·rename_i t x lo hi
  split at e
  ·replace e := qa e; obtain ⟨x', h1, e⟩ := e
   replace e := qa e; obtain ⟨lo', h2, e⟩ := e
   replace e := qa e; obtain ⟨hi', h3, e⟩ := e
   obtain ⟨v, v1, v2⟩ := ky hρ h1
   obtain ⟨vl, l1, l2⟩ := vG hρ h2
   obtain ⟨vh, l3, l4⟩ := vG hρ h3
   obtain ⟨u, u1, u2⟩ := a1s H v2 l2 l4 e
   have l5 : jV r none = some none := rfl
   simp only [qG, v1, l1, l3, l5, u1]
   exact u2
  ·exact w8 hcall H hρ e
 ·rename_i t l c
  split at e
  ·rename_i ka a kb b h1 h2
   obtain ⟨q, mk, m1, m2⟩ := a5t (ka := ka) (kb := kb) H e
   have n1 : wa P (.makeSlice t l c) r = some (q, mk) := by
    simp only [wa, ac3 hρ h1, ac3 hρ h2]
    exact m1
   simp only [qG, n1]
   exact m2
  ·cases e
 ·rename_i t x i
  split at e
  ·rename_i n te cs ki j hu hx hi
   replace e := qa e; obtain ⟨s, hs, e⟩ := e
   obtain ⟨m, m1, rfl, e'⟩ := jy e
   refine w8 hcall H hρ (ty := ty) (call := call) ?_
   unfold vk
   simp only [hx, hi, qt, XE, hu, a0N, hs, Int.toNat_natCast]
   rw [qc, if_pos ⟨by omega, m1⟩]
   exact e'
  ·exact w8 hcall H hρ e
 ·rename_i t x i
  split at e
  ·rename_i n te id off ki j hu hx hi
   replace e := qa e; obtain ⟨s, hs, e⟩ := e
   obtain ⟨m, m1, rfl, e'⟩ := jy e
   refine w8 hcall H hρ (ty := ty) (call := call) ?_
   unfold vk
   simp only [hx, hi, qt, Zg, hu, a0N, hs, Int.toNat_natCast, ton]
   rw [qc, if_pos ⟨by omega, m1⟩]
   exact e'
  ·rename_i te id off n ki j hu hx hi
   replace e := qa e; obtain ⟨s, hs, e⟩ := e
   obtain ⟨m, m1, rfl, e'⟩ := jy e
   refine w8 hcall H hρ (ty := ty) (call := call) ?_
   unfold vk
   simp only [hx, hi, qt, Zg, hu, a0N, hs, Int.toNat_natCast]
   rw [qc, if_pos ⟨by omega, m1⟩]
   exact e'
  ·exact w8 hcall H hρ e
 ·rename_i args ts
  replace e := qa e; obtain ⟨ds, h1, e⟩ := e
  split at e
  case h_2 => cases e
  rename_i d x
  obtain ⟨vs, e3, r3⟩ := zF hρ (ds := [d, x].map enc) (by rw [jj, h1]; rfl)
  cases r3 with
  | cons hd t => cases t with
   | cons hx t =>
    cases t
    obtain ⟨u, h', u1, u2⟩ := a70 H hd hx e
    simp only [qG, e3, u1]
    exact u2
 ·rename_i args ts
  split at e
  ·rename_i c xs x h1
   obtain ⟨vs, e3, r3⟩ := zF hρ (ds := [.slx c xs, x].map enc) (by rw [jj, h1]; rfl)
   cases r3 with
   | cons hd t => cases t with
    | cons hx t =>
     cases t
     obtain ⟨u, h', u1, u2, _⟩ := xq H hd hx e
     simp only [qG, e3, u1]
     exact u2
  ·exact w8 hcall H hρ e
 ·exact w8 hcall H hρ e
end
open Go.RowKit
section
variable {R : Type}
def adw : Value → Value → Option Bool
 | .int k a, .int k' b => if k = k' then some (decide (a = b)) else none
 | .string a, .string b => some (a == b)
 | .bool a, .bool b => some (a == b)
 | _, _ => none
def ac7 (k : Value) : List (Value × TV) → (TV → Tree R) → Tree R → Tree R
 | [], _, N => N
 | e :: es, K, N => match adw k e.1 with
  | some b => .cond b (K e.2) (ac7 k es K N)
  | none => .fail
def a4B (k : Value) : List (Value × TV) → Bool
 | [] => true
 | e :: es => match adw k e.1 with
  | some false => a4B k es
  | _ => false
def tvZ (z : Value) : Option TV := match constK z with
 | true => (match z with
  | .agg xs => match xs.toList.all scal with
   | true => some (.agg (xs.toList.map .v))
   | false => none
  | z => match scal z with
   | true => some (.v z)
   | false => none)
 | false => none
def Um (P : Program) (L : List TO) (t : TypeId) (K : TV → List TO → Tree R) : Tree R := match P.underlying t with
 | some (.map _ _) => K (.mref L.length) (L ++ [.mp []])
 | _ => .fail
def a4E (P : Program) (L : List TO) (t : TypeId) (m k v : TV) (K : List TO → Tree R) : Tree R := match P.underlying t, m, k with
 | some (.map kt _), .mref id, .v kv => match L[id]? with
  | some (.mp es) => match jD P kt kv && a4B kv es && ZR v with
   | true => K (L.set id (.mp (es ++ [(kv, v)])))
   | false => .fail
  | _ => .fail
 | _, _, _ => .fail
def a2T (P : Program) (L : List TO) (t : TypeId) (m k : TV) (ok : Bool) (K : TV → List TO → Tree R) : Tree R := match P.underlying t, m, k with
 | some (.map kt et), .mref id, .v kv => match L[id]? with
  | some (.mp es) => match jD P kt kv with
   | true => ac7 kv es (fun v => match ok with
     | true => K (.tup [v, .v (.bool true)]) L
     | false => K v L) (qt ((P.info? et).bind (·.zero)) fun zv => qt (tvZ zv) fun zt => match ok with
     | true => K (.tup [zt, .v (.bool false)]) L
     | false => K zt L)
   | false => .fail
  | _ => .fail
 | _, _, _ => .fail
def a4v (P : Program) (ty : TypeId → Option CT) (L : List TO) (t : TypeId) (K : TV → List TO → Tree R) : Tree R :=
 match P.underlying t with
 | some (.slice e) => qt (ty e) fun c => qt (za P e) fun _ => if szT P e = some c.size then K (.ref L.length 0) (L ++ [.li c e false []]) else .fail
 | _ => .fail
def top (P : Program) (ty : TypeId → Option CT) (call : yt R) (o : Op) (ρ : KM) (L : List TO) (K : TV → List TO → Tree R) : Tree R :=
 match o with
 | .makeMap t none => Um P L t K
 | .insert t x y z => qt (ρ x) fun m => qt (ρ y) fun k => qt (ρ z) fun v => a4E P L t m k v fun L' => K a8P L'
 | .lookup t x y ok => qt (ρ x) fun m => qt (ρ y) fun k => a2T P L t m k ok K
 | .buildSlice t n ps => match decide (n = 0) && ps.toList.isEmpty with
  | true => a4v P ty L t K
  | false => a5g P ty call (.buildSlice t n ps) ρ L K
 | o => a5g P ty call o ρ L K
variable {P : Program} {γ : Pl} {L : List TO} {h : Heap} {h0 : Heap} {W0 : Ent} {z : R} {K : TV → List TO → Tree R}
theorem Vk (a b : Int) : (a == b) = decide (a = b) := by by_cases h : a = b <;> simp [h]
theorem a6S {kt : TypeId} {x y : Value} {b : Bool} (hk : jD P kt x = true) (e : adw x y = some b) : YT P kt x y = some b := by
 unfold jD at hk
 unfold YT
 split at hk
 ·rename_i hu; simp only [hu, yf, if_true]
  cases y with
  | int k' n' => simp only [adw] at e; simp only [Instr.sameNow, Vk]; exact e
  | _ => cases e
 ·rename_i hu; simp only [hu, yf, if_true]
  cases y with
  | string s => simp only [adw] at e; simp only [Instr.sameNow]; exact e
  | _ => cases e
 ·rename_i hu; simp only [hu, yf, if_true]
  cases y with
  | bool s => simp only [adw] at e; simp only [Instr.sameNow]; exact e
  | _ => cases e
 ·cases y <;> cases e
 ·cases hk
abbrev MpR (P : Program) (S : Nat → Prop) (γ : Pl) (Lo : List Obj) (h : Heap) : Value × DV → MapEntry → Prop := fun d e => e.key = d.1 ∧ D1 P S γ Lo h d.2 e.val
theorem XR {kt : TypeId} {k : Value} (hk : jD P kt k = true) {S : Nat → Prop} {Lo : List Obj} {Kv : TV → Tree R} {N : Tree R} : ∀ {es : List (Value × TV)} {mes : List MapEntry} (i : Nat), (ac7 k es Kv N).run = some z → All2 (MpR P S γ Lo h) (es.map fun x => (x.1, zb x.2)) mes →
  (yn P kt k mes i = some none ∧ N.run = some z) ∨ ∃ j u v, yn P kt k mes i = some (some (j, u)) ∧ D1 P S γ Lo h (zb v) u ∧ (Kv v).run = some z
 | [], _, i, e, .nil => .inl ⟨rfl, e⟩
 | x :: es, _, i, e, .cons (b := y) hy t => by
  unfold ac7 at e
  split at e
  case h_2 => cases e
  rename_i b hb
  have h1 := a6S hk hb
  rw [← hy.1] at h1
  unfold yn
  cases b with
  | true => exact .inr ⟨i, _, x.2, by rw [h1], hy.2, e⟩
  | false =>
   rw [h1]
   exact XR hk (i + 1) e t
theorem X8 {kt : TypeId} {k : Value} (hk : jD P kt k = true) {S : Nat → Prop} {Lo : List Obj} : ∀ {es : List (Value × TV)} {mes : List MapEntry} (i : Nat), a4B k es = true → All2 (MpR P S γ Lo h) (es.map fun x => (x.1, zb x.2)) mes → yn P kt k mes i = some none
 | [], _, i, e, .nil => rfl
 | x :: es, _, i, e, .cons (b := y) hy t => by
  unfold a4B at e
  split at e
  case h_2 => cases e
  rename_i hb
  have h1 := a6S hk hb
  rw [← hy.1] at h1
  unfold yn
  rw [h1]
  exact X8 hk (i + 1) e t
theorem scs {S : Nat → Prop} {Lo : List Obj} : ∀ {l : List Value}, l.all scal = true → All2 (DC P S γ Lo h) ((l.map TV.v).map qy) l
 | [], _ => .nil
 | v :: l, e => by
  simp only [List.all_cons, Bool.and_eq_true] at e
  exact .cons (PR.v e.1) (scs e.2)
theorem afi {zv : Value} {zt : TV} (e : tvZ zv = some zt) {S : Nat → Prop} {Lo : List Obj} : constK zv = true ∧ D1 P S γ Lo h (zb zt) zv := by
 unfold tvZ at e
 split at e
 case h_2 => cases e
 rename_i hc
 refine ⟨hc, ?_⟩
 split at e
 ·rename_i xs _
  split at e
  ·rename_i hs
   cases e
   exact ⟨_, rfl, scs hs⟩
  ·cases e
 ·split at e
  ·rename_i hs
   cases e
   exact PR.v hs
  ·cases e
theorem afQ {S : Nat → Prop} {Lo : List Obj} {v : TV} {u : Value} {b : Bool} (hd : D1 P S γ Lo h (zb v) u) : DR P S γ Lo h (enc (.tup [v, .v (.bool b)])) (.tuple #[u, .bool b]) :=
 ⟨_, rfl, .cons hd (.cons (PR.v rfl) .nil)⟩
theorem abQ {S : Nat → Prop} {Lo : List Obj} {v : TV} {u : Value} (hd : D1 P S γ Lo h (zb v) u) : DR P S γ Lo h (enc v) u := by
 cases v <;> first | exact hd | (exact hd.elim)
theorem ak0 {S : Nat → Prop} {Lo : List Obj} {v : TV} {u : Value} (h1 : ZR v = true) (hd : DR P S γ Lo h (enc v) u) : D1 P S γ Lo h (zb v) u := by
 cases v <;> first | exact hd | (cases h1)
theorem a11 {t : TypeId} {m k : TV} {ok : Bool} {v u : Value} (H : Hp P h0 W0 γ (eL L) h) (hm : DR P (qe W0 γ (eL L) h) γ (eL L) h (enc m) v) (hk : DR P (qe W0 γ (eL L) h) γ (eL L) h (enc k) u)
  (e : (a2T P L t m k ok K).run = some z) : ∃ w, WI P t h v u ok = some w ∧ Jf P h0 W0 γ L h K z w h := by
 unfold a2T at e
 split at e
 case h_2 => cases e
 rename_i kt et id kv hu
 split at e
 case h_2 => cases e
 rename_i es hL
 split at e
 case h_2 => cases e
 rename_i hok
 obtain ⟨b, g, ⟨_, _⟩, rfl⟩ := (show DB P (qe W0 γ (eL L) h) γ (eL L) h (.mref id) v from hm)
 have : u = kv := PR.scal (P := P) (S := qe W0 γ (eL L) h) (h := h) hk
 subst this
 obtain ⟨b', mes, ck, g', hg, ha⟩ := (show OR P (qe W0 γ (eL L) h) γ (eL L) h id (.mp (es.map fun x => (x.1, zb x.2))) from H.obj id _ (zg hL))
 rw [g] at g'; cases g'
 have fin : ∀ {d : TV} {w : Value}, (K d L).run = some z → DR P (qe W0 γ (eL L) h) γ (eL L) h (enc d) w → Jf P h0 W0 γ L h K z w h := fun h1 h2 => ⟨γ, _, _, h1, H, Carry.refl _ _ _, h2⟩
 unfold WI
 simp only [hu, wv, hg, hok, if_true]
 rcases XR hok 0 e ha with ⟨h1, h2⟩ | ⟨j, w, x, h1, h2, h3⟩
 ·simp only [h1]
  replace h2 := qa h2; obtain ⟨zv, hz, h2⟩ := h2
  replace h2 := qa h2; obtain ⟨zt, hzt, h2⟩ := h2
  obtain ⟨c1, c2⟩ := afi (P := P) (γ := γ) (h := h) (S := qe W0 γ (eL L) h) (Lo := eL L) hzt
  simp only [hz, c1, if_true]
  cases ok with
  | true => exact ⟨_, rfl, fin h2 (afQ c2)⟩
  | false => exact ⟨_, rfl, fin h2 (abQ c2)⟩
 ·simp only [h1]
  cases ok with
  | true => exact ⟨_, rfl, fin h3 (afQ h2)⟩
  | false => exact ⟨_, rfl, fin h3 (abQ h2)⟩
theorem Yq {t : TypeId} {m k x : TV} {v u w : Value} {Ks : List TO → Tree R} (H : Hp P h0 W0 γ (eL L) h) (hm : DR P (qe W0 γ (eL L) h) γ (eL L) h (enc m) v) (hk : DR P (qe W0 γ (eL L) h) γ (eL L) h (enc k) u) (hx : DR P (qe W0 γ (eL L) h) γ (eL L) h (enc x) w)
  (e : (a4E P L t m k x Ks).run = some z) : ∃ h' L' id b, Zt P t h v u w = some h' ∧ Hp P h0 W0 γ (eL L') h' ∧ Carry W0 γ (eL L) h γ (eL L') h' ∧ (Ks L').run = some z ∧ γ id = some (b, 0) ∧ (∃ es, (eL L)[id]? = some (.mp es)) ∧ ∀ b', b' ≠ b → h'.get b' = h.get b' := by
 unfold a4E at e
 split at e
 case h_2 => cases e
 rename_i kt et id kv hu
 split at e
 case h_2 => cases e
 rename_i es hL
 split at e
 case h_2 => cases e
 rename_i hc
 simp only [Bool.and_eq_true] at hc
 obtain ⟨⟨hok, hfr⟩, h1x⟩ := hc
 obtain ⟨b, g, ⟨_, _⟩, rfl⟩ := (show DB P (qe W0 γ (eL L) h) γ (eL L) h (.mref id) v from hm)
 have : u = kv := PR.scal (P := P) (S := qe W0 γ (eL L) h) (h := h) hk
 subst this
 have hi := zg hL
 obtain ⟨b', mes, ck, g', hg, ha⟩ := (show OR P (qe W0 γ (eL L) h) γ (eL L) h id (.mp (es.map fun x => (x.1, zb x.2))) from H.obj id _ hi)
 rw [g] at g'; cases g'
 have hf := X8 hok 0 hfr ha
 have c : Carry W0 γ (eL L) h γ ((eL L).set id (kQ (.mp (es ++ [(u, x)])))) (h.set b (.map (mes ++ [⟨u, w, ck⟩]) (ck + 1))) := by
  refine wM hi (.inl rfl) (fun _ _ => rfl) (fun c q => ?_) (fun _ q => ?_) (Nat.le_refl _) (fun _ _ q _ => .inl q) (fun b2 _ q => ?_) (fun c q => ⟨rfl, _, rfl⟩)
  ·cases q
  ·exact q.elim
  ·exact Heap.get_set_ne _ _ fun q2 => q 0 (by rw [q2]; exact g)
 refine ⟨h.set b (.map (mes ++ [⟨u, w, ck⟩]) (ck + 1)), L.set id (.mp (es ++ [(u, x)])), id, b, ?_, ?_, ?_, e, g, ⟨_, hi⟩, fun b2 q => Heap.get_set_ne _ _ q⟩
 ·unfold Zt
  simp only [hu, hg, hok, if_true, hf, a4a, a3W]
 ·rw [QZ]
  refine Hp.write H hi (.inl rfl) c (fun _ _ => rfl) (Nat.le_refl _) (fun _ _ q => .inl ⟨_, q⟩) (fun _ _ => (List.getElem?_eq_some_iff.1 hi).1) (fun b2 _ q => Heap.get_set_ne _ _ fun q2 => q 0 (by rw [q2]; exact g)) ?_
  refine ⟨b, _, _, g, Heap.get_set_self hg, ?_⟩
  rw [List.map_append]
  exact (ha.mono fun _ _ q => ⟨q.1, c.d1 q.2⟩).append (.cons ⟨rfl, c.d1 (ak0 h1x hx)⟩ .nil)
 ·rw [QZ]; exact c
theorem U7 {t : TypeId} (H : Hp P h0 W0 γ (eL L) h) (e : (Um P L t K).run = some z) : (∃ a b, P.underlying t = some (.map a b)) ∧ Jf P h0 W0 γ L h K z (.map (some h.next)) (h.push (.map [] 0)) := by
 unfold Um at e
 split at e
 case h_2 => cases e
 rename_i a b hu
 refine ⟨⟨a, b, hu⟩, yr γ (eL L).length h.next, _, _, e, ?_, ?_, ?_⟩
 ·rw [jN]
  exact Hp.push H ⟨h.next, [], 0, by simp [yr], by rw [Heap.get_push, if_pos rfl], .nil⟩
 ·rw [jN]
  exact KQ H.dom _ _
 ·refine ⟨h.next, ?_, ⟨[], ?_⟩, rfl⟩
  ·rw [← zW L]; simp [yr]
  ·rw [jN, ← zW L, List.getElem?_append_right (Nat.le_refl _), Nat.sub_self]; rfl
theorem a0C {ty : TypeId → Option CT} {t : TypeId} (H : Hp P h0 W0 γ (eL L) h) (e : (a4v P ty L t K).run = some z) :
  ∃ q mk, jt P t 0 [] = some (q, mk) ∧ Jf P h0 W0 γ L h K z (mk h.next) (h.push q) := by
 unfold a4v at e
 split at e
 case h_2 => cases e
 rename_i te hu
 replace e := qa e; obtain ⟨c, hc, e⟩ := e
 replace e := qa e; obtain ⟨zc, hz, e⟩ := e
 split at e
 case isFalse => cases e
 rename_i hs
 have hfill : Instr.fill (fun i => some (i * c.size, c.size)) (wu zc 0).toArray [] = some (wu zc 0).toArray := rfl
 refine ⟨.cells (wu zc 0).toArray.toList te true, qz 0 0, ?_, ?_⟩
 ·unfold jt
  simp only [hu, hz, hs, hfill]
  rw [if_pos ⟨by omega, CT.size_pos c, by omega⟩]
 ·obtain ⟨H1, c1⟩ := H.grow (h' := h.push (.cells (wu zc 0).toArray.toList te true)) (by simp) (fun b hb => Heap.get_push_ne _ _ (by omega))
  obtain ⟨a1, a2, a3⟩ := VQ H1 (v := .slice (some ⟨h.next, 0, none⟩) 0 0) (.inr ⟨_, _, rfl⟩)
  rw [show ([Obj.li none []] : List Obj) = [kQ (TO.li c te false [])] from rfl, ← jN] at a1 a2
  refine ⟨γ, _, _, e, a1, c1.trans' a2, ?_⟩
  rw [XF, jN, ← zW L]
  exact a3
theorem xc {ty : TypeId → Option CT} {call : yt R} {wr : TWr} (hcall : TCallOk P call wr) {o : Op} {ρ : KM} {r : Rho} (H : Hp P h0 W0 γ (eL L) h) (hρ : xb P W0 γ (eL L) h (ZS ρ) r) (e : (top P ty call o ρ L K).run = some z) : qG P o r h (Jf P h0 W0 γ L h K z) := by
 unfold top at e
 split at e
 ·rename_i t
  obtain ⟨⟨a, b, hu⟩, q⟩ := U7 H e
  simp only [qG, wa, hu]
  exact q
 ·rename_i t x y z'
  replace e := qa e; obtain ⟨m, h1, e⟩ := e
  replace e := qa e; obtain ⟨k, h2, e⟩ := e
  replace e := qa e; obtain ⟨v, h3, e⟩ := e
  obtain ⟨v1, e1, r1⟩ := ky hρ h1
  obtain ⟨v2, e2, r2⟩ := ky hρ h2
  obtain ⟨v3, e3, r3⟩ := ky hρ h3
  obtain ⟨h', L', _, _, q1, q2, q3, q4, _⟩ := Yq H r1 r2 r3 e
  simp only [qG, e1, e2, e3, q1]
  exact ⟨γ, _, _, q4, q2, q3, ⟨#[], rfl, .nil⟩⟩
 ·rename_i t x y ok
  replace e := qa e; obtain ⟨m, h1, e⟩ := e
  replace e := qa e; obtain ⟨k, h2, e⟩ := e
  obtain ⟨v1, e1, r1⟩ := ky hρ h1
  obtain ⟨v2, e2, r2⟩ := ky hρ h2
  obtain ⟨w, q1, q2⟩ := a11 H r1 r2 e
  simp only [qG, e1, e2, q1]
  exact q2
 ·rename_i t n ps
  split at e
  ·rename_i hc
   simp only [Bool.and_eq_true, decide_eq_true_eq, List.isEmpty_iff] at hc
   obtain ⟨rfl, hps⟩ := hc
   obtain ⟨q, mk, q1, q2⟩ := a0C H e
   have : wa P (.buildSlice t 0 ps) r = some (q, mk) := by
    simp only [wa, hps, Jv]
    exact q1
   simp only [qG, this]
   exact q2
  ·exact UI hcall H hρ e
 ·exact UI hcall H hρ e
end
open Go.RowKit
def vd : List UInt8 → List UInt8 → Bool
 | [], [] => true
 | a :: r, b :: s => a.toNat == b.toNat && vd r s
 | _, _ => false
theorem JF : ∀ {r s : List UInt8}, vd r s = true → r = s
 | [], [], _ => rfl
 | a :: r, b :: s, h => by
  simp only [vd, Bool.and_eq_true, beq_iff_eq] at h
  rw [UInt8.toNat_inj.1 h.1, JF h.2]
 | [], _ :: _, h => by cases h
 | _ :: _, [], h => by cases h
def agO : IntKind → IntKind → Bool := fun a b => decide (a = b)
def a3E (a b : Option Addr) : Bool :=
 match a, b with
 | none, none => true
 | some ⟨x, y, none⟩, some ⟨x', y', none⟩ => x == x' && y == y'
 | _, _ => false
theorem V6 {a b : Option Addr} (h : a3E a b = true) : a = b := by
 unfold a3E at h
 split at h
 ·rfl
 ·simp only [Bool.and_eq_true, beq_iff_eq] at h
  rw [h.1, h.2]
 ·cases h
mutual
def kY : Value → Value → Bool
 | .bool a, .bool b => a == b
 | .int k n, .int k' n' => agO k k' && decide (n = n')
 | .string s, .string t => vd s.data.toList t.data.toList
 | .pointer a, .pointer b => a3E a b
 | .slice a n c, .slice a' n' c' => a3E a a' && n == n' && c == c'
 | .map a, .map b => decide (a = b)
 | .chan a, .chan b => decide (a = b)
 | .func (.func k) ⟨f⟩ ⟨c⟩, .func (.func k') ⟨f'⟩ ⟨c'⟩ => k == k' && yB f f' && yB c c'
 | .nilFunc, .nilFunc => true
 | .iface t v, .iface t' v' => t == t' && kY v v'
 | .nilIface, .nilIface => true
 | .agg ⟨a⟩, .agg ⟨b⟩ => yB a b
 | .tuple ⟨a⟩, .tuple ⟨b⟩ => yB a b
 | _, _ => false
def yB : List Value → List Value → Bool
 | [], [] => true
 | a :: r, b :: s => kY a b && yB r s
 | _, _ => false
end
mutual
theorem kW : ∀ (a b : Value), kY a b = true → a = b
 | .bool a, b, h => by
  cases b <;> simp_all [kY]
 | .int k n, b, h => by
  cases b <;> simp_all [kY, agO]
 | .string s, b, h => by
  cases b <;> simp only [kY] at h <;> try (cases h; done)
  rename_i t
  have := JF h
  obtain ⟨⟨s⟩⟩ := s
  obtain ⟨⟨t⟩⟩ := t
  simp only at this
  rw [this]
 | .pointer a, b, h => by
  cases b <;> simp only [kY] at h <;> try (cases h; done)
  rw [V6 h]
 | .slice a n c, b, h => by
  cases b <;> simp only [kY, Bool.and_eq_true, beq_iff_eq] at h <;> try (cases h; done)
  rw [V6 h.1.1, h.1.2, h.2]
 | .map a, b, h => by
  cases b <;> simp_all [kY]
 | .chan a, b, h => by
  cases b <;> simp_all [kY]
 | .func f fs cs, b, h => by
  obtain ⟨fs⟩ := fs
  obtain ⟨cs⟩ := cs
  cases f <;> cases b <;> try (simp only [kY] at h; cases h; done)
  rename_i k f' fs' cs'
  obtain ⟨fs'⟩ := fs'
  obtain ⟨cs'⟩ := cs'
  cases f' <;> simp only [kY, Bool.and_eq_true, beq_iff_eq] at h <;> try (cases h; done)
  rw [h.1.1, j5 _ _ h.1.2, j5 _ _ h.2]
 | .nilFunc, b, h => by
  cases b <;> simp_all [kY]
 | .iface t v, b, h => by
  cases b <;> simp only [kY, Bool.and_eq_true, beq_iff_eq] at h <;> try (cases h; done)
  rw [h.1, kW _ _ h.2]
 | .nilIface, b, h => by
  cases b <;> simp_all [kY]
 | .agg a, b, h => by
  obtain ⟨a⟩ := a
  cases b <;> try (simp only [kY] at h; cases h; done)
  rename_i b
  obtain ⟨b⟩ := b
  rw [j5 a b (by simpa only [kY] using h)]
 | .tuple a, b, h => by
  obtain ⟨a⟩ := a
  cases b <;> try (simp only [kY] at h; cases h; done)
  rename_i b
  obtain ⟨b⟩ := b
  rw [j5 a b (by simpa only [kY] using h)]
 | .float _ _, b, h => by cases b <;> simp [kY] at h
 | .complex _ _ _, b, h => by cases b <;> simp [kY] at h
theorem j5 : ∀ (a b : List Value), yB a b = true → a = b
 | [], b, h => by cases b <;> simp_all [yB]
 | x :: r, b, h => by
  cases b with
  | nil => simp [yB] at h
  | cons y s =>
   simp only [yB, Bool.and_eq_true] at h
   rw [kW x y h.1, j5 r s h.2]
end
end Go.Sim
