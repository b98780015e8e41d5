/- Part 6 of the claim EmuPrints: T3, T4, T5, T6, T7, TY1, TY2, TY3, TY4, TY5, TY6, I5 -/
import Derived.Scope
import Derived.Test.YtaamhddpmbombaaW5
import Derived.Test.YtaamhddpmbombaaW4
set_option linter.unusedSimpArgs false
set_option linter.unusedVariables false
set_option linter.defProp false
noncomputable section
namespace Go.Sim
open Go.RowKit
def eL (L : List TO) : List Obj := L.map kh
def zW (a : TFrm) : DFrm := ⟨a.n, a.c, a.l.map fun p => (p.1, enc p.2)⟩
def QE (ρ : Zq) : JD := fun x => (ρ x).map enc
theorem j7 (t : Nat) : ∀ l : List (Nat × TV), qW t (l.map fun p => (p.1, enc p.2)) = (Qx t l).map enc
 | [] => rfl
 | (t', d) :: l => by
  simp only [List.map_cons, qW, Qx]
  split
  ·rfl
  ·exact j7 t l
theorem J8 (a : TFrm) (t : Option Nat) (d : TV) : zW (a.put t d) = (zW a).put t (enc d) := by
 cases t with
 | none => rfl
 | some t =>
  unfold TFrm.put DFrm.put zW
  simp only
  split <;> rfl
theorem a5V (v : Value) : xQ v = (a7n v).map enc := by
 unfold xQ a7n
 split
 ·rfl
 ·cases v <;> try rfl
  simp only
  split <;> rfl
theorem ahK (a : TFrm) (x : Operand) : (zW a).ev x = (a.ev x).map enc := by
 cases x with
 | tmp t => exact j7 t a.l
 | const v => exact a5V v
 | func f => rfl
 | global g => rfl
theorem a2b (a : TFrm) : QE a.ev = (zW a).ev := funext fun x => (ahK a x).symm
section
variable {ρ : Zq}
theorem kE : ∀ xs : List Operand, yx (QE ρ) xs = (Wh ρ xs).map (List.map enc)
 | [] => rfl
 | x :: r => by
  simp only [yx, Wh, kE r, QE]
  cases ρ x <;> cases Wh ρ r <;> rfl
theorem YL : ∀ xs : List (Nat × Operand), Zc (QE ρ) xs = (a0c ρ xs).map (List.map fun p => (p.1, enc p.2))
 | [] => rfl
 | (i, x) :: r => by
  simp only [Zc, a0c, YL r, QE]
  cases ρ x <;> cases a0c ρ r <;> rfl
end
theorem Qv {d : TV} (h : isC d = true) : enc d = qr d := by cases d <;> first | rfl | cases h
theorem a89 {o : Option TV} {d : TV} (h : adK o = some d) : o = some d ∧ isC d = true := by
 unfold adK at h
 first | (rw [qa] at h; split at h) | split at h
 ·first | (rw [qa] at h; split at h) | split at h
  ·rename_i h1; cases h; exact ⟨rfl, h1⟩
  ·cases h
 ·cases h
theorem yN {P : Program} {t : TypeId} {cs : List TV} {off : Nat} {d : TV} (h : Zz P t cs off = some d) : ye P t (cs.map qr) off = some (enc d) := by
 unfold Zz at h
 unfold ye
 first | (rw [qa] at h; split at h) | split at h
 ·cases h
 ·rename_i hu
  rw [hu]
  simp only
  first | (rw [qa] at h; split at h) | split at h
  ·rename_i ha
   rw [if_pos ha]
   first | (rw [qa] at h; split at h) | split at h
   ·rename_i n hn
    rw [hn]
    simp only [List.length_map]
    first | (rw [qa] at h; split at h) | split at h
    ·rename_i hl
     cases h
     rw [if_pos hl]
     simp [enc, qU, List.map_take, List.map_drop]
    ·cases h
   ·cases h
  ·rename_i ha
   rw [if_neg ha]
   obtain ⟨h1, h2⟩ := a89 h
   rw [List.getElem?_map, h1, Qv h2]; rfl
theorem Zh (d : TV) : is1 (enc d) = QL d := by cases d <;> rfl
theorem Z1 {d : TV} (h : QL d = true) : zl (enc d) = (wl d).map qr := by cases d <;> first | rfl | cases h
theorem UU : ∀ xs : List TV, yk (xs.map qr) = V5 xs
 | [] => rfl
 | x :: l => by
  simp only [List.map_cons, V5]
  cases x <;> first | rfl | (simp only [qr, zF, yk, UU l])
theorem Q9 (d : TV) : wp (enc d) = Vk d := by
 cases d <;> first | rfl | (simp only [enc, qU, wp, Vk, UU])
theorem afI (o : Option Value) : scD o = (scT o).map enc := by
 unfold scD scT
 cases o with
 | none => rfl
 | some v => simp only; split <;> rfl
theorem Wq {o : Option Value} {d : TV} (h : scT o = some d) : scD o = some (enc d) := by rw [afI, h]; rfl
theorem xB {d : TV} {x : Value} (h : a1B d = some x) : Kb (enc d) = some x := by
 cases d <;> first | exact h | cases h
theorem aaf {P : Program} {op : BinOp} {t : TypeId} {a b d : TV} (h : adw P op t a b = some d) : wB P op t (enc a) (enc b) = some (enc d) := by
 unfold adw at h
 unfold wB
 rw [Q9, Q9]
 first | (rw [qa] at h; split at h) | split at h
 ·rename_i h1 h2; simp only [h1, h2]; exact Wq h
 ·rename_i h1 h2
  simp only [h1, h2]
  first | (rw [qa] at h; split at h) | split at h
  ·rename_i hn
   rw [if_pos hn]
   first | (rw [qa] at h; split at h) | split at h
   ·rename_i x hx; rw [xB hx]; exact Wq h
   ·cases h
  ·cases h
 ·rename_i h1 h2
  simp only [h1, h2]
  first | (rw [qa] at h; split at h) | split at h
  ·rename_i hn
   rw [if_pos hn]
   first | (rw [qa] at h; split at h) | split at h
   ·rename_i x hx; rw [xB hx]; exact Wq h
   ·cases h
  ·cases h
 ·cases h
section
variable {R : Type} {P : Program} {K : TV → Tree R} {z : R}
def a2w (op : BinOp) (x y : TV) : Bool := match op, x, y with
 | .eql, .sl _ _, .v (.slice none 0 0) => true
 | .neq, .sl _ _, .v (.slice none 0 0) => true
 | _, _, _ => false
theorem adZ {op : BinOp} {t : TypeId} {x y : TV} (hn : a2w op x y = false) (h : (acH P op t x y K).run = some z) : ∃ r, wB P op t (enc x) (enc y) = some (enc r) ∧ (K r).run = some z := by
 unfold acH at h
 split at h
 ·rename_i k a k' b
  split at h
  ·rename_i hk
   rw [qa] at h
   split at h
   ·rename_i hb
    refine ⟨_, ?_, h⟩
    simp [enc, qU, qr, zF, wB, wp, qZ, zy, hk, QK, hb, scD, scal, qF]
   ·cases h
  ·cases h
 ·rename_i k a k' b
  split at h
  ·rename_i hk
   rw [qa] at h
   split at h
   ·rename_i hb
    refine ⟨_, ?_, h⟩
    simp [enc, qU, qr, zF, wB, wp, qZ, zy, hk, QK, hb, scD, scal, qF]
   ·cases h
  ·cases h
 ·rename_i k a k' b
  rw [qa] at h
  split at h
  ·rename_i hb
   refine ⟨_, ?_, h⟩
   simp only [enc, qU, qr, zF, wB, wp, qZ, zy, if_true, QF, if_neg (Int.not_lt.2 hb)]
   rfl
  ·cases h
 ·rename_i k a k' b
  rw [qa] at h
  split at h
  ·rename_i hb
   refine ⟨_, ?_, h⟩
   simp only [enc, qU, qr, zF, wB, wp, qZ, zy, if_true, QF, if_neg (Int.not_lt.2 hb)]
   rfl
  ·cases h
 ·rename_i a b
  rw [qa] at h
  split at h
  ·rename_i hb
   refine ⟨_, ?_, h⟩
   simp only [enc, qU, qr, zF, wB, wp, qZ, Ua, if_pos hb]
   rfl
  ·cases h
 ·cases hn
 ·cases hn
 ·obtain ⟨d, h1, h2⟩ := q9 h
  exact ⟨d, aaf h1, h2⟩
end
theorem Qz : ∀ (vs cs : List TV) (i : Nat), kq (cs.map qr) i (vs.map qr) = (kY cs i vs).map qr
 | [], cs, i => rfl
 | v :: r, cs, i => by
  simp only [List.map_cons, kq, kY]
  rw [← Qz r, List.map_set]
theorem Y1 (P : Program) (t : TypeId) : JK P t = (vU P t).map (List.map qr) := by
 unfold JK vU
 cases qT P t with
 | none => rfl
 | some z =>
  simp only
  split
  ·simp [Function.comp_def, qr, zF]
  ·rfl
theorem a44 {pl : Nat → Option (Nat × Nat)} : ∀ (ps : List (Nat × TV)) (cells out : List TV), a4Y pl cells ps = some out → JS pl (cells.map qr) (ps.map fun p => (p.1, enc p.2)) = some (out.map qr)
 | [], cells, out, h => by cases h; rfl
 | (i, v) :: r, cells, out, h => by
  unfold a4Y at h
  simp only [List.map_cons, JS]
  first | (rw [qa] at h; split at h) | split at h
  ·cases h
  ·rename_i off sz hp
   rw [hp]
   simp only
   first | (rw [qa] at h; split at h) | split at h
   ·rename_i hc
    have h1 := hc.1
    rw [Z1 h1, Zh, List.length_map, List.length_map, if_pos hc, Qz]
    exact a44 r _ _ h
   ·cases h
theorem a7h {P : Program} {t : TypeId} {ps : List (Nat × TV)} {d : TV} (h : a0M P t ps = some d) : Ji P t (ps.map fun p => (p.1, enc p.2)) = some (enc d) := by
 unfold a0M at h
 unfold Ji
 rw [Y1]
 first | (rw [qa] at h; split at h) | split at h
 ·rename_i pl z h1 h2
  rw [h1, h2]
  simp only [Option.map_some]
  first | (rw [qa] at h; split at h) | split at h
  ·rename_i hz
   rw [if_pos hz]
   cases hf : a4Y pl z ps with
   | none => rw [hf] at h; cases h
   | some out => rw [hf] at h; cases h; rw [a44 _ _ _ hf]; rfl
  ·cases h
 ·cases h
theorem a6E {P : Program} {t : TypeId} {x : TV} {f : Nat} {d : TV} (h : a23 P t x f = some d) : Jw P t (enc x) f = some (enc d) := by
 unfold a23 at h
 unfold Jw
 first | (rw [qa] at h; split at h) | split at h
 ·rename_i fs cs hu
  rw [hu]
  simp only [enc, qU]
  first | (rw [qa] at h; split at h) | split at h
  ·rename_i fd hf
   rw [hf]
   exact yN h
  ·cases h
 ·cases h
theorem z7 {L : List TO} {id : Nat} {o : TO} (h : L[id]? = some o) : (eL L)[id]? = some (kh o) := by
 unfold eL; rw [List.getElem?_map, h]; rfl
theorem Qk {L : List TO} {id tot : Nat} {c : CT} {e : TypeId} {loc : Bool} {xs : List c.T} (h : L[id]? = some (.li c e loc xs)) (ht : xs.length = tot) : zG (eL L) id tot = some (xs.map (qM c)) := by
 unfold zG; rw [z7 h]; simp [kh, ht]
theorem yu {L : List TO} {id tot : Nat} {c : CT} {e : TypeId} {loc : Bool} {xs : List c.T} (h : L[id]? = some (.fz c e loc xs)) (ht : xs.length = tot) : zG (eL L) id tot = some (xs.map (qM c)) := by
 unfold zG; rw [z7 h]; simp [kh, ht]
theorem YM {L : List TO} {id n tot : Nat} (h : YE L id = some n) (hn : n = tot) : ∃ rs, zG (eL L) id tot = some rs := by
 unfold YE at h
 first | (rw [qa] at h; split at h) | split at h
 ·rename_i h1; cases h; exact ⟨_, Qk h1 hn⟩
 ·rename_i h1; cases h; exact ⟨_, yu h1 hn⟩
 ·cases h
section
variable {R : Type} {P : Program} {K : TV → Tree R} {z : R} {L : List TO}
theorem a1T {k : Nat} {x : TV} (h : (ton L k x K).run = some z) : ∃ r, onD (eL L) k (enc x) = some (enc r) ∧ (K r).run = some z := by
 unfold ton at h
 first | (rw [qa] at h; split at h) | split at h
 ·exact ⟨_, rfl, h⟩
 ·obtain ⟨n, h1, h2⟩ := q9 h
  obtain ⟨h3, h4⟩ := zS h2
  obtain ⟨rs, hr⟩ := YM h1 (h3 _ List.mem_cons_self)
  exact ⟨_, by simp [enc, qU, qr, zF, onD, hr], h4⟩
 ·exact ⟨_, rfl, h⟩
 ·cases h
theorem a27 {x : TV} {n : Int} (h : Ug x = some n) : aec (enc x) = some n := by
 unfold Ug at h
 first | (rw [qa] at h; split at h) | split at h
 ·cases h; rfl
 ·cases h
theorem VQ {c : CT} {s id n tot m : Nat} (h : (aav c s id n tot m K).run = some z) : c.size = s ∧ n < tot ∧ m = tot ∧ (K (.ep id n 0 tot)).run = some z := by
 unfold aav at h
 first | (rw [qa] at h; split at h) | split at h
 ·rename_i h1
  first | (rw [qa] at h; split at h) | split at h
  ·rename_i h2; exact ⟨h1, h2.1, h2.2, h⟩
  ·cases h
 ·cases h
theorem xg {t : TypeId} {x i : TV} (h : (Q3 P L t x i K).run = some z) : ∃ r, jV P (eL L) t (enc x) (enc i) = some (enc r) ∧ (K r).run = some z := by
 unfold Q3 at h
 obtain ⟨n, hi, h⟩ := q9 h
 unfold jV
 rw [a27 hi]
 simp only
 first | (rw [qa] at h; split at h) | split at h
 ·rename_i e hu
  obtain ⟨s, hs, h⟩ := q9 h
  rw [hu]
  simp only [hs]
  have key : ∀ {tot : Nat} {c : CT} {xs : List c.T} {k : Nat}, c.size = s → k < tot → xs.length = tot → ∃ row, (xs.map (qM c))[k]? = some row ∧ row.length = s := by
   intro tot c xs k hc hk hl
   have hk' : k < xs.length := by omega
   exact ⟨qM c xs[k], by rw [List.getElem?_map, List.getElem?_eq_getElem hk']; rfl, by rw [k9, hc]⟩
  first | (rw [qa] at h; split at h) | split at h
  ·rename_i c xs
   first | (rw [qa] at h; split at h) | split at h
   ·rename_i hc
    first | (rw [qa] at h; split at h) | split at h
    ·rename_i h0
     obtain ⟨y, hy, h⟩ := kg h
     refine ⟨_, ?_, h⟩
     simp [enc, qU, qr, zF, h0, hc, List.getElem?_map, hy]
    ·cases h
   ·cases h
  ·rename_i id tot
   first | (rw [qa] at h; split at h) | split at h
   ·rename_i h0
    first | (rw [qa] at h; split at h) | split at h
    ·rename_i c e' loc xs hL
     obtain ⟨h1, h2, h3, h4⟩ := VQ h
     have hr := Qk hL h3
     obtain ⟨row, q1, q2⟩ := key h1 h2 h3
     refine ⟨_, ?_, h4⟩
     simp only [enc, qU, qr, zF, if_pos h0, hr, if_pos h2, Nat.zero_add, q1, if_pos q2]
    ·rename_i c e' loc xs hL
     obtain ⟨h1, h2, h3, h4⟩ := VQ h
     have hr := yu hL h3
     obtain ⟨row, q1, q2⟩ := key h1 h2 h3
     refine ⟨_, ?_, h4⟩
     simp only [enc, qU, qr, zF, if_pos h0, hr, if_pos h2, Nat.zero_add, q1, if_pos q2]
    ·cases h
   ·cases h
  ·rename_i id lo m tot
   first | (rw [qa] at h; split at h) | split at h
   ·rename_i h0
    first | (rw [qa] at h; split at h) | split at h
    ·rename_i c e' loc xs hL
     obtain ⟨h1, h2, h3, h4⟩ := VQ h
     have hr := Qk hL h3
     obtain ⟨row, q1, q2⟩ := key h1 h2 h3
     refine ⟨_, ?_, h4⟩
     simp only [enc, qU, qr, zF, if_pos h0.1, hr, if_pos h0.2, q1, if_pos q2]
    ·rename_i c e' loc xs hL
     obtain ⟨h1, h2, h3, h4⟩ := VQ h
     have hr := yu hL h3
     obtain ⟨row, q1, q2⟩ := key h1 h2 h3
     refine ⟨_, ?_, h4⟩
     simp only [enc, qU, qr, zF, if_pos h0.1, hr, if_pos h0.2, q1, if_pos q2]
    ·cases h
   ·cases h
  ·first | (rw [qa] at h; split at h) | split at h
   ·rename_i h0
    exact ⟨_, by simp only [enc, qU, qr, zF, if_pos h0.1, if_pos h0.2], h⟩
   ·cases h
  ·cases h
 ·rename_i len e hu
  obtain ⟨s, hs, h⟩ := q9 h
  rw [hu]
  simp only [hs]
  first | (rw [qa] at h; split at h) | split at h
  ·rename_i h0
   rw [if_pos h0.1, if_pos h0.2]
   exact a1T h
  ·cases h
 ·cases h
theorem Jo {t : TypeId} {x : TV} (h : (a3O P L t x K).run = some z) : ∃ r, jv P (eL L) t (enc x) = some (enc r) ∧ (K r).run = some z := by
 unfold a3O at h
 first | (rw [qa] at h; split at h) | split at h
 ·first | (rw [qa] at h; split at h) | split at h
  ·rename_i cells hL
   obtain ⟨d, h1, h2⟩ := q9 h
   refine ⟨d, ?_, h2⟩
   simp only [enc, qU, qr, zF, jv, z7 hL, kh]
   exact yN h1
  ·cases h
 ·rename_i id i off tot
  first | (rw [qa] at h; split at h) | split at h
  ·rename_i c e loc xs hL
   first | (rw [qa] at h; split at h) | split at h
   ·rename_i ht
    obtain ⟨y, hy, h⟩ := kg h
    obtain ⟨d, h1, h2⟩ := q9 h
    refine ⟨d, ?_, h2⟩
    simp only [enc, qU, qr, zF, jv, Qk hL ht, List.getElem?_map, hy, Option.map_some]
    rw [← Qh]
    exact yN h1
   ·cases h
  ·rename_i c e loc xs hL
   first | (rw [qa] at h; split at h) | split at h
   ·rename_i ht
    obtain ⟨y, hy, h⟩ := kg h
    obtain ⟨d, h1, h2⟩ := q9 h
    refine ⟨d, ?_, h2⟩
    simp only [enc, qU, qr, zF, jv, yu hL ht, List.getElem?_map, hy, Option.map_some]
    rw [← Qh]
    exact yN h1
   ·cases h
  ·cases h
 ·obtain ⟨d, h1, h2⟩ := q9 h
  refine ⟨d, ?_, h2⟩
  simp only [enc, qU, qr, zF, jv]
  rw [← Qh]
  exact yN h1
 ·cases h
end
open Go.RowKit
theorem zH (L : List TO) : (eL L).length = L.length := by simp [eL]
theorem yR (L : List TO) (i : Nat) (o : TO) : eL (L.set i o) = (eL L).set i (kh o) := by simp [eL, List.map_set]
theorem j9 (L : List TO) (o : TO) : eL (L ++ [o]) = eL L ++ [kh o] := by simp [eL]
theorem VD (c : CT) (xs : List c.T) : ((xs.map (qM c)).all fun r => r.length == c.size) = true := by
 rw [List.all_eq_true]; intro r hr
 obtain ⟨x, _, rfl⟩ := List.mem_map.1 hr
 simp [k9]
theorem YD : ∀ l : List UInt8, (l.map fun c => [PV.v (.int .u8 c.toNat)]) = List.map (qM (.int .u8)) (l.map fun c => ((c.toNat : Int) : CT.T (.int .u8)))
 | [] => rfl
 | c :: l => by
  have := YD l
  simp only [List.map_cons] at this ⊢
  rw [this]
  rfl
section
variable {R : Type} {P : Program} {z : R} {L : List TO}
theorem a0h {k : IntKind} : ∀ {l : List TV} {ys : List Int}, a5e k l = some ys → pvs (l.map qr) = some (ys.map fun n => PV.v (.int k n))
 | [], ys, h => by cases h; rfl
 | x :: r, ys, h => by
  unfold a5e at h
  split at h
  ·split at h
   ·rename_i hk
    subst hk
    cases hq : a5e _ r with
    | none => rw [hq] at h; cases h
    | some zs =>
     rw [hq] at h
     cases h
     show (pvs (r.map qr)).map _ = _
     rw [a0h hq]
     rfl
   ·cases h
  ·cases h
theorem yX {c : CT} {t : TypeId} {x : TV} {K : List c.T → Tree R} (h : (a3X P L c t x K).run = some z) : ∃ ys : List c.T, a0Q P (eL L) c.size t (enc x) = some (ys.map (qM c)) ∧ (K ys).run = some z := by
 unfold a3X at h
 unfold a0Q
 first | (rw [qa] at h; split at h) | split at h
 ·rename_i e hu
  rw [hu]
  simp only
  first | (rw [qa] at h; split at h) | split at h
  ·rename_i c' xs
   first | (rw [qa] at h; split at h) | split at h
   ·rename_i hc
    have := CT.of_eqb hc
    subst this
    exact ⟨xs, by simp [enc, qU, qr, zF], h⟩
   ·cases h
  ·exact ⟨[], rfl, h⟩
  ·rename_i id tot
   first | (rw [qa] at h; split at h) | split at h
   ·rename_i c' e' loc xs hL
    first | (rw [qa] at h; split at h) | split at h
    ·rename_i hc
     have := CT.of_eqb hc
     subst this
     replace h := zS h; obtain ⟨h1, h2⟩ := h
     have ht : xs.length = tot := h1 _ List.mem_cons_self
     refine ⟨xs, ?_, h2⟩
     simp only [enc, qU, qr, zF, Qk hL ht, VD, if_true, List.drop_zero]
     rw [List.take_of_length_le (by simp [ht])]
    ·cases h
   ·rename_i c' e' loc xs hL
    first | (rw [qa] at h; split at h) | split at h
    ·rename_i hc
     have := CT.of_eqb hc
     subst this
     replace h := zS h; obtain ⟨h1, h2⟩ := h
     have ht : xs.length = tot := h1 _ List.mem_cons_self
     refine ⟨xs, ?_, h2⟩
     simp only [enc, qU, qr, zF, yu hL ht, VD, if_true, List.drop_zero]
     rw [List.take_of_length_le (by simp [ht])]
    ·cases h
   ·cases h
  ·rename_i id lo n tot
   first | (rw [qa] at h; split at h) | split at h
   ·rename_i c' e' loc xs hL
    first | (rw [qa] at h; split at h) | split at h
    ·rename_i hc
     have := CT.of_eqb hc
     subst this
     replace h := zS h; obtain ⟨h1, h2⟩ := h
     have ht : xs.length = tot := h1 _ List.mem_cons_self
     refine ⟨(xs.drop lo).take n, ?_, h2⟩
     simp only [enc, qU, qr, zF, Qk hL ht, VD, if_true, List.map_take, List.map_drop]
    ·cases h
   ·rename_i c' e' loc xs hL
    first | (rw [qa] at h; split at h) | split at h
    ·rename_i hc
     have := CT.of_eqb hc
     subst this
     replace h := zS h; obtain ⟨h1, h2⟩ := h
     have ht : xs.length = tot := h1 _ List.mem_cons_self
     refine ⟨(xs.drop lo).take n, ?_, h2⟩
     simp only [enc, qU, qr, zF, yu hL ht, VD, if_true, List.map_take, List.map_drop]
    ·cases h
   ·cases h
  ·rename_i id off n
   split at h
   ·rename_i k K'
    split at h
    ·rename_i cells hL
     split at h
     ·rename_i hle
      replace h := q9 h; obtain ⟨ys, h1, h2⟩ := h
      refine ⟨ys, ?_, h2⟩
      show (match (eL L)[id]? with
       | some (.st cells) => if (CT.int k).size = 1 ∧ off + n ≤ cells.length then (pvs ((cells.drop off).take n)).map fun l : List PV => l.map fun x => [x] else none
       | _ => none) = _
      rw [z7 hL]
      show (if (CT.int k).size = 1 ∧ off + n ≤ (cells.map qr).length then (pvs (((cells.map qr).drop off).take n)).map fun l : List PV => l.map fun x => [x] else none) = _
      rw [if_pos ⟨rfl, by rw [List.length_map]; exact hle⟩, ← List.map_drop, ← List.map_take, a0h h1]
      simp only [Option.map_some, List.map_map]
      rfl
     ·cases h
    ·cases h
   ·cases h
  ·cases h
 ·rename_i hu
  rw [hu]
  simp only
  first | (rw [qa] at h; split at h) | split at h
  ·rename_i s
   first | (rw [qa] at h; split at h) | split at h
   ·rename_i hc
    have := CT.of_eqb hc
    subst this
    refine ⟨a1o s, ?_, h⟩
    show (if CT.size (.int .u8) = 1 then some _ else none) = _
    rw [if_pos (show CT.size (.int .u8) = 1 from rfl)]
    exact congrArg some (YD _)
   ·cases h
  ·cases h
 ·cases h
theorem a1y {n b : Nat} (h : n ≤ lim b) (hb : 0 < b) : n ≤ maxLen ∧ n * b ≤ 140737488355328 := by
 unfold lim at h
 have h1 := (Nat.le_div_iff_mul_le hb).1 h
 refine ⟨?_, h1⟩
 have h2 : n ≤ n * b := Nat.le_mul_of_pos_right n hb
 have : maxLen = 9223372036854775807 := rfl
 omega
theorem ahp (loc : Bool) (e : TypeId) (n m : Nat) : (if m = 0 then eo loc e n else some e) = eo loc e (n + m) := by
 unfold eo
 cases loc
 ·by_cases hm : m = 0
  ·simp [hm]
  ·simp [hm]
 ·simp
theorem Va {ty : TypeId → Option CT} {ts : List TypeId} {s x : TV} {K : TV → List TO → Tree R} (h : (Yk P ty ts L s x K).run = some z) : ∃ r L', Z5 P ts (eL L) (enc s) (enc x) = some (enc r, eL L') ∧ (K r L').run = some z := by
 unfold Yk at h
 unfold Z5
 first | (rw [qa] at h; split at h) | split at h
 ·rename_i t t2
  first | (rw [qa] at h; split at h) | split at h
  ·rename_i e hu
   replace h := q9 h; obtain ⟨i, hi, h⟩ := h
   replace h := q9 h; obtain ⟨zc, hz, h⟩ := h
   replace h := q9 h; obtain ⟨c, hc, h⟩ := h
   first | (rw [qa] at h; split at h) | split at h
   ·rename_i hsz
    replace h := yX h; obtain ⟨ys, hy, h⟩ := h
    have h0 : 0 < i.size := by rw [← hsz.1]; exact CT.size_pos c
    simp only [hu, hi, hz]
    rw [hsz.1] at hy
    simp only [hy]
    first | (rw [qa] at h; split at h) | split at h
    ·first | (rw [qa] at h; split at h) | split at h
     ·rename_i hl
      obtain ⟨l1, l2⟩ := a1y hl hsz.2
      refine ⟨_, _, ?_, h⟩
      simp only [enc, qU, qr, zF, List.length_map, zH]
      rw [if_pos ⟨h0, l1, l2⟩, j9]
      rfl
     ·cases h
    ·rename_i id tot
     first | (rw [qa] at h; split at h) | split at h
     ·rename_i c' e' loc xs hL
      first | (rw [qa] at h; split at h) | split at h
      ·rename_i he
       subst he
       first | (rw [qa] at h; split at h) | split at h
       ·rename_i hcc
        have := CT.of_eqb hcc
        subst this
        first | (rw [qa] at h; split at h) | split at h
        ·rename_i hl
         obtain ⟨l1, l2⟩ := a1y hl.2 hsz.2
         refine ⟨_, _, ?_, h⟩
         simp only [enc, qU, qr, zF, List.length_map, z7 hL, kh]
         have he : eo loc e' xs.length = none ∨ eo loc e' xs.length = some e' := by
          unfold eo; cases loc
          ·by_cases h0 : xs.length = 0 <;> simp [h0]
          ·exact .inr rfl
         have ht := hl.1
         subst ht
         rw [if_pos ⟨(by first | trivial | rfl), (by first | trivial | rfl), (by first | trivial | rfl), he, h0, l1, l2⟩, yR, UC]
         simp only [kh, List.length_append, ahp, List.map_append]
        ·cases h
       ·cases h
      ·cases h
     ·cases h
    ·cases h
   ·cases h
  ·cases h
 ·cases h
theorem VH (k : IntKind) {n : Int} (h : 0 ≤ n) : kR (.int k n) = some n.toNat := by
 simp [kR, h]
def BdV (o : Option Int) (v : Option Value) : Prop := match o, v with
 | none, none => True
 | some n, some (.int _ m) => m = n
 | _, _ => False
theorem Qe {n : Nat} {lo hi : Option Int} {lv hv : Option Value} {K : Option Nat → Option Nat → Tree R} (hl : BdV lo lv) (hh : BdV hi hv) (h : (wZ n lo hi K).run = some z) :
  ∃ l r, (K l r).run = some z ∧ qE n n lv hv none = some ((jS n l r).1, (jS n l r).1 + (jS n l r).2, none) ∧ (jS n l r).1 + (jS n l r).2 ≤ n ∧ ∀ {α : Type} (xs : List α), xs.length = n → aad xs l r = (xs.drop (jS n l r).1).take (jS n l r).2 := by
 unfold wZ at h
 first | (rw [qa] at h; split at h) | split at h
 ·have : lv = none := by cases lv <;> first | rfl | exact hl.elim
  subst this
  have : hv = none := by cases hv <;> first | rfl | exact hh.elim
  subst this
  exact ⟨none, none, h, by simp [qE, jS], by simp [jS], fun xs hx => by simp [aad, jS, ← hx]⟩
 ·rename_i b
  have : lv = none := by cases lv <;> first | rfl | exact hl.elim
  subst this
  obtain ⟨k, rfl⟩ : ∃ k, hv = some (.int k b) := by
   cases hv with
   | none => exact hh.elim
   | some v => cases v <;> first | (cases hh; exact ⟨_, rfl⟩) | exact hh.elim
  first | (rw [qa] at h; split at h) | split at h
  ·rename_i hc
   exact ⟨none, some b.toNat, h, by simp [qE, jS, VH, hc.1, hc.2], by simp [jS, hc.2], fun xs hx => by simp [aad, jS]⟩
  ·cases h
 ·rename_i a
  have : hv = none := by cases hv <;> first | rfl | exact hh.elim
  subst this
  obtain ⟨k, rfl⟩ : ∃ k, lv = some (.int k a) := by
   cases lv with
   | none => exact hl.elim
   | some v => cases v <;> first | (cases hl; exact ⟨_, rfl⟩) | exact hl.elim
  first | (rw [qa] at h; split at h) | split at h
  ·rename_i hc
   have := hc.2
   refine ⟨some a.toNat, none, h, ?_, by simp only [jS]; omega, fun xs hx => ?_⟩
   ·simp only [qE, jS, VH _ hc.1, if_pos hc.2]
    rw [show a.toNat + (n - a.toNat) = n by omega]
   ·simp only [aad, jS]; rw [List.take_of_length_le (by simp [hx])]
  ·cases h
 ·rename_i a b
  obtain ⟨k, rfl⟩ : ∃ k, lv = some (.int k a) := by
   cases lv with
   | none => exact hl.elim
   | some v => cases v <;> first | (cases hl; exact ⟨_, rfl⟩) | exact hl.elim
  obtain ⟨k', rfl⟩ : ∃ k, hv = some (.int k b) := by
   cases hv with
   | none => exact hh.elim
   | some v => cases v <;> first | (cases hh; exact ⟨_, rfl⟩) | exact hh.elim
  first | (rw [qa] at h; split at h) | split at h
  ·rename_i hc
   have h1 := hc.1
   have h2 := hc.2.1
   have h3 := hc.2.2
   refine ⟨some a.toNat, some b.toNat, h, ?_, by simp only [jS]; omega, fun xs hx => by simp only [aad, jS]⟩
   simp only [qE, jS, VH _ hc.1, VH _ (show 0 ≤ b by omega), if_pos h3]
   rw [if_pos (by omega)]
   congr 2
   simp only [Prod.mk.injEq, and_true]; omega
  ·cases h
theorem ad9 {α : Type} (xs : List α) (a b : Nat) : (xs.drop a).take (a + b - a) = (xs.drop a).take b := by rw [Nat.add_sub_cancel_left]
theorem a8f {t : TypeId} {x : TV} {lo hi : Option Int} {lv hv : Option Value} {K : TV → Tree R} (hl : BdV lo lv) (hh : BdV hi hv) (h : (a67 P L t x lo hi K).run = some z) :
  ∃ r, jN P (eL L) t (enc x) lv hv none = some (enc r) ∧ (K r).run = some z := by
 unfold a67 at h
 unfold jN
 first | (rw [qa] at h; split at h) | split at h
 ·rename_i e hu
  replace h := q9 h; obtain ⟨s, hs, h⟩ := h
  rw [hu]
  simp only [hs]
  have part : ∀ {id tot : Nat} {c : CT} {e' : TypeId} {loc : Bool} {xs : List c.T} {o : TO}, L[id]? = some o → (o = .li c e' loc xs ∨ o = .fz c e' loc xs) → c.size = s → e' = e → xs.length = tot → 0 < tot →
    (∃ rs, zG (eL L) id tot = some rs) ∧ (((eL L)[id]?).bind wj).bind (szT P) = some s := by
   intro id tot c e' loc xs o hL ho hc he ht h0
   subst he
   have hne : eo loc e' xs.length = some e' := by
    unfold eo; cases loc
    ·rw [if_neg (by decide), if_neg (by omega)]
    ·rfl
   rcases ho with rfl | rfl
   ·exact ⟨⟨_, Qk hL ht⟩, by rw [z7 hL]; simp [kh, wj, hne, hs]⟩
   ·exact ⟨⟨_, yu hL ht⟩, by rw [z7 hL]; simp [kh, wj, hne, hs]⟩
  first | (rw [qa] at h; split at h) | split at h
  ·rename_i c xs
   first | (rw [qa] at h; split at h) | split at h
   ·rename_i hc
    replace h := Qe hl hh h; obtain ⟨l, r, hk, hb, hle, hcut⟩ := h
    refine ⟨_, ?_, hk⟩
    simp only [enc, qU, qr, zF, if_pos hc, List.length_map, hb, ad9]
    rw [hcut xs rfl, List.map_take, List.map_drop]
   ·cases h
  ·replace h := Qe hl hh h; obtain ⟨l, r, hk, hb, hle, hcut⟩ := h
   refine ⟨_, ?_, hk⟩
   simp only [enc, qU, qr, zF, hb]
  ·rename_i id tot
   have fin : ∀ {c : CT} {e' : TypeId} {loc : Bool} {xs : List c.T} {o : TO}, L[id]? = some o → (o = .li c e' loc xs ∨ o = .fz c e' loc xs) →
     (if c.size = s ∧ e' = e then tif (0 < tot ∧ xs.length = tot) (wZ tot lo hi fun l h => K (.part id (jS tot l h).1 (jS tot l h).2 tot)) else .fail).run = some z →
     ∃ r, (match zG (eL L) id tot with
      | some _ => if (((eL L)[id]?).bind wj).bind (szT P) = some s ∧ 0 < tot then match qE tot tot lv hv none with
        | some (l, r, _) => some (DV.ref id (0 + l) (r - l) tot)
        | none => none
       else none
      | none => none) = some (enc r) ∧ (K r).run = some z := by
    intro c e' loc xs o hL ho h
    first | (rw [qa] at h; split at h) | split at h
    ·rename_i h1
     first | (rw [qa] at h; split at h) | split at h
     ·rename_i h2
      obtain ⟨⟨rs, p1⟩, p2⟩ := part hL ho h1.1 h1.2 h2.2 h2.1
      replace h := Qe hl hh h; obtain ⟨l, r, hk, hb, hle, hcut⟩ := h
      refine ⟨_, ?_, hk⟩
      simp only [p1, p2, true_and, if_pos h2.1, hb, enc, qU, qr, zF, Nat.zero_add, Nat.add_sub_cancel_left]
     ·cases h
    ·cases h
   first | (rw [qa] at h; split at h) | split at h
   ·rename_i hL
    exact fin hL (.inl rfl) h
   ·rename_i hL
    exact fin hL (.inr rfl) h
   ·cases h
  ·rename_i id a n tot
   have fin : ∀ {c : CT} {e' : TypeId} {loc : Bool} {xs : List c.T} {o : TO}, L[id]? = some o → (o = .li c e' loc xs ∨ o = .fz c e' loc xs) →
     (if c.size = s ∧ e' = e then tif (0 < n ∧ xs.length = tot ∧ 0 < tot) (wZ n lo hi fun l h => K (.part id (a + (jS n l h).1) (jS n l h).2 tot)) else .fail).run = some z →
     ∃ r, (match zG (eL L) id tot with
      | some _ => if (((eL L)[id]?).bind wj).bind (szT P) = some s ∧ 0 < n then match qE n n lv hv none with
        | some (l, r, _) => some (DV.ref id (a + l) (r - l) tot)
        | none => none
       else none
      | none => none) = some (enc r) ∧ (K r).run = some z := by
    intro c e' loc xs o hL ho h
    first | (rw [qa] at h; split at h) | split at h
    ·rename_i h1
     first | (rw [qa] at h; split at h) | split at h
     ·rename_i h2
      obtain ⟨⟨rs, p1⟩, p2⟩ := part hL ho h1.1 h1.2 h2.2.1 h2.2.2
      replace h := Qe hl hh h; obtain ⟨l, r, hk, hb, hle, hcut⟩ := h
      refine ⟨_, ?_, hk⟩
      simp only [p1, p2, true_and, if_pos h2.1, hb, enc, qU, qr, zF, Nat.add_sub_cancel_left]
     ·cases h
    ·cases h
   first | (rw [qa] at h; split at h) | split at h
   ·rename_i hL
    exact fin hL (.inl rfl) h
   ·rename_i hL
    exact fin hL (.inr rfl) h
   ·cases h
  ·cases h
 ·cases h
theorem UK {t : TypeId} {x : TV} {K : TV → Tree R} (h : (a8H P L t x K).run = some z) : ∃ r, xm P (eL L) t (enc x) = some (enc r) ∧ (K r).run = some z := by
 unfold a8H at h
 unfold xm
 first | (rw [qa] at h; split at h) | split at h
 ·rename_i hu
  rw [hu]
  simp only
  first | (rw [qa] at h; split at h) | split at h
  ·exact ⟨_, by simp only [enc, qU, qr, zF, List.length_map], h⟩
  ·exact ⟨_, rfl, h⟩
  ·rename_i id tot
   replace h := q9 h; obtain ⟨n, h1, h2⟩ := h
   replace h2 := zS h2; obtain ⟨h3, h4⟩ := h2
   obtain ⟨rs, hr⟩ := YM h1 (h3 _ List.mem_cons_self)
   exact ⟨_, by simp only [enc, qU, qr, zF, hr], h4⟩
  ·rename_i id lo m tot
   replace h := q9 h; obtain ⟨n, h1, h2⟩ := h
   replace h2 := zS h2; obtain ⟨h3, h4⟩ := h2
   obtain ⟨rs, hr⟩ := YM h1 (h3 _ List.mem_cons_self)
   exact ⟨_, by simp only [enc, qU, qr, zF, hr], h4⟩
  ·exact ⟨_, rfl, h⟩
  ·cases h
 ·rename_i hu
  rw [hu]
  simp only
  first | (rw [qa] at h; split at h) | split at h
  ·exact ⟨_, rfl, h⟩
  ·cases h
 ·rename_i hu
  rw [hu]
  simp only
  first | (rw [qa] at h; split at h) | split at h
  ·exact ⟨_, rfl, h⟩
  ·cases h
 ·cases h
theorem a5m : ∀ xs : List (CT.T (.int .u8)), Vd (xs.map (qM (.int .u8))) = some xs
 | [] => rfl
 | x :: l => by
  have := a5m l
  simp only [List.map_cons]
  show (Vd (List.map (qM (.int .u8)) l)).map _ = _
  rw [this]
  rfl
theorem aaC {s d : TypeId} {x : TV} {K : TV → List TO → Tree R} (h : (aeB P L s d x K).run = some z) : ∃ r L', vp P (eL L) s d (enc x) = some (enc r, eL L') ∧ (K r L').run = some z := by
 unfold aeB at h
 unfold vp
 first | (rw [qa] at h; split at h) | split at h
 ·rename_i e hu hd
  rw [hu, hd]
  simp only
  first | (rw [qa] at h; split at h) | split at h
  ·rename_i hb
   replace h := yX h; obtain ⟨ys, hy, h⟩ := h
   refine ⟨_, L, ?_, h⟩
   rw [if_pos hb]
   rw [show (1 : Nat) = CT.size (.int .u8) from rfl, hy]
   simp only [Option.bind_some, a5m]
   rfl
  ·cases h
 ·rename_i e hu hd
  rw [hu, hd]
  simp only
  first | (rw [qa] at h; split at h) | split at h
  ·rename_i t
   first | (rw [qa] at h; split at h) | split at h
   ·rename_i hb
    first | (rw [qa] at h; split at h) | split at h
    ·rename_i hl
     refine ⟨_, _, ?_, h⟩
     simp only [enc, qU, qr, zF]
     rw [if_pos ⟨hb.1, hb.2, hl⟩, j9, zH]
     unfold a1o
     simp only [kh, eo, if_true]
     rw [YD]
    ·cases h
   ·cases h
  ·cases h
 ·rename_i e' e hu hd
  rw [hu, hd]
  simp only
  split at h
  ·rename_i id tot
   split at h
   ·rename_i hb
    split at h
    ·rename_i c te loc xs hL
     rw [qa] at h
     split at h
     ·rename_i hc
      refine ⟨_, _, ?_, h⟩
      have he : eo loc te xs.length = some te := by
       unfold eo; cases loc
       ·rw [if_neg (by decide), if_neg (by omega)]
       ·rfl
      show (if s = d ∧ yo P e = true ∧ 0 < tot ∧ 0 < tot then _ else _) = _
      rw [if_pos ⟨hb.1, hb.2, hc.1, hc.1⟩, z7 hL]
      show (match some (Obj.li (eo loc te xs.length) (xs.map (qM c))) with
       | some (Obj.li (some _) rows) => if rows.length = tot then some (DV.ref id 0 tot tot, eL L) else none
       | _ => none) = _
      rw [he]
      simp only [List.length_map, if_pos hc.2]
      rfl
     ·cases h
    ·cases h
   ·cases h
  ·cases h
 ·rename_i n1 n2 n3
  first | (rw [qa] at h; split at h) | split at h
  ·rename_i v hv
   replace h := q9 h; obtain ⟨r, h1, h2⟩ := h
   refine ⟨r, L, ?_, h2⟩
   rw [← Q9] at hv
   split
   ·rename_i a b; exact absurd b (n1 _ a)
   ·rename_i a b; exact absurd b (n2 _ a)
   ·rename_i a b; exact absurd b (n3 _ _ a)
   ·rw [hv]; simp only [Wq h1, Option.map_some]
  ·cases h
theorem a3j {ty : TypeId → Option CT} {t : TypeId} {x i : TV} {K : TV → Tree R} (h : (VT P ty t x i K).run = some z) : ∃ r, Jg P t (enc x) (enc i) = some (enc r) ∧ (K r).run = some z := by
 unfold VT at h
 first | (rw [qa] at h; split at h) | split at h
 ·rename_i len e cs n hu hi
  first | (rw [qa] at h; split at h) | split at h
  ·rename_i s hs
   first | (rw [qa] at h; split at h) | split at h
   ·rename_i hc
    replace h := q9 h; obtain ⟨d, h1, h2⟩ := h
    refine ⟨d, ?_, h2⟩
    unfold Jg
    rw [hu, a27 hi]
    simp only [enc, qU, hs, if_pos hc]
    exact yN h1
   ·cases h
  ·cases h
 ·rename_i s n hu hi
  first | (rw [qa] at h; split at h) | split at h
  ·rename_i hc
   replace h := kg h; obtain ⟨b, h1, h2⟩ := h
   refine ⟨_, ?_, h2⟩
   unfold Jg
   rw [hu, a27 hi]
   simp only [enc, qU, qr, zF, if_pos hc, h1, Option.map_some]
   rfl
  ·cases h
 ·cases h
theorem a18 {x d : TV} {i : Nat} (h : vr x i = some d) : yJ (enc x) i = some (enc d) := by
 unfold vr at h
 first | (rw [qa] at h; split at h) | split at h
 ·rename_i xs
  first | (rw [qa] at h; split at h) | split at h
  ·rename_i d' hd
   first | (rw [qa] at h; split at h) | split at h
   ·rename_i h1
    cases h
    simp only [enc, yJ, List.getElem?_map, hd, Option.map_some]
    congr 1
    cases d <;> first | rfl | cases h1
   ·cases h
  ·cases h
 ·cases h
theorem Wx : ∀ (ds : List TV), wN (ds.map enc) = Jy ds
 | [] => rfl
 | d :: l => by
  simp only [List.map_cons, wN, Jy, Q9, Wx l]
  cases Vk d <;> cases Jy l <;> rfl
theorem a3P {d : TV} (h : Y4 d = true) : K2 (enc d) = true ∧ enc d = zF d := by cases d <;> first | exact ⟨rfl, rfl⟩ | cases h
theorem wQ : ∀ {ds : List TV}, ds.all Y4 = true → (ds.map enc).all K2 = true ∧ ds.map enc = ds.map zF
 | [], _ => ⟨rfl, rfl⟩
 | d :: l, h => by
  simp only [List.all_cons, Bool.and_eq_true] at h
  obtain ⟨h1, h2⟩ := wQ h.2
  refine ⟨?_, ?_⟩
  ·rw [List.map_cons, List.all_cons, h1, (a3P h.1).1]; rfl
  ·rw [List.map_cons, List.map_cons, h2, (a3P h.1).2]
theorem aaa {f : Fn} {a b : Option (List TV)} {d : TV} (h : a6l f a b = some d) : vx f (a.map (List.map enc)) (b.map (List.map enc)) = some (enc d) := by
 unfold a6l at h
 first | (rw [qa] at h; split at h) | split at h
 ·rename_i k a b
  first | (rw [qa] at h; split at h) | split at h
  ·rename_i hb
   simp only [Bool.and_eq_true] at hb
   cases h
   obtain ⟨h1, h2⟩ := wQ hb.1
   obtain ⟨h3, h4⟩ := wQ hb.2
   simp only [Option.map_some, vx, h1, h3, Bool.and_self, if_true, enc, qU, qr]
   rw [h2, h4]
  ·cases h
 ·cases h
end
open Go.RowKit
section
variable {P : Program} {γ : Pl} {L : List Obj} {h : Heap} {h0 : Heap} {W0 : Ent}
theorem YJ (H : Hp P h0 W0 γ L h) {id : Nat} {e : Option TypeId} {rows : List (List PV)} (hi : L[id]? = some (.li e rows)) : Hp P h0 W0 γ (L.set id (.fz e rows)) h ∧ Carry W0 γ L h γ (L.set id (.fz e rows)) h := by
 have hget : ∀ b', b' < h.next → (∀ x, γ id ≠ some (b', x)) → h.get b' = h.get b' := fun _ _ _ => rfl
 have hd : (Obj.li e rows).owns = true ∨ γ id = none := by
  cases e with
  | none => exact .inr (H.obj id _ hi).2
  | some _ => exact .inl rfl
 have c := w8 (W0 := W0) (h := h) (γ := γ) (γ' := γ) (h' := h) (o' := .fz e rows) hi hd (fun _ _ => rfl) (fun c e => (by cases e)) (fun r' hl' => ⟨rows, rfl, by cases hl'; exact Nat.le_refl _, fun _ => ⟨rfl, fun z hz => by cases hl'; exact hz⟩⟩) (Nat.le_refl _) (fun b x e d => by cases d) hget
 refine ⟨H.write hi hd c (fun _ _ => rfl) (Nat.le_refl _) (fun b x e => .inl ⟨x, e⟩) (fun x e => H.dom _ _ e) hget ?_, c⟩
 have ho := H.obj id _ hi
 cases e with
 | none => exact ho
 | some te =>
  obtain ⟨b, q, g1, g2⟩ := ho
  refine ⟨b, q, g1, ⟨?_, H.allowed hi rfl g1, fun j oj x hj hdj hg => ?_⟩, c.rows rfl g2⟩
  ·obtain ⟨cs, z, a1, _⟩ := g2
   exact h.wf _ _ a1
  ·rcases getElem?_set' hj with ⟨hne, hj⟩ | ⟨rfl, _, rfl⟩
   ·exact hne (H.inj j id oj _ b x q hj hi hdj rfl hg g1)
   ·cases hdj
theorem a1G (H : Hp P h0 W0 γ L h) {id : Nat} {e : Option TypeId} {rows rows' : List (List PV)} (hi : L[id]? = some (.li e rows)) (hw : QS rows' rows) : Hp P h0 W0 γ (L.set id (.li e rows')) h ∧ Carry W0 γ L h γ (L.set id (.li e rows')) h := by
 have hget : ∀ b', b' < h.next → (∀ x, γ id ≠ some (b', x)) → h.get b' = h.get b' := fun _ _ _ => rfl
 have hd : (Obj.li e rows).owns = true ∨ γ id = none := by
  cases e with
  | none => exact .inr (H.obj id _ hi).2
  | some _ => exact .inl rfl
 have c := w8 (W0 := W0) (h := h) (γ := γ) (γ' := γ) (h' := h) (o' := .li e rows') hi hd (fun _ _ => rfl) (fun c e => (by cases e)) (fun r' hl' => ⟨rows, rfl, by cases hl'; exact Nat.le_of_eq (QV hw).symm, fun _ => ⟨rfl, fun z hz => by cases hl'; exact YW hw hz⟩⟩) (Nat.le_refl _) (fun b x e d => .inl e) hget
 refine ⟨H.write hi hd c (fun _ _ => rfl) (Nat.le_refl _) (fun b x e => .inl ⟨x, e⟩) (fun x e => H.dom _ _ e) hget ?_, c⟩
 have ho := H.obj id _ hi
 cases e with
 | none => exact ⟨Jh hw ho.1, ho.2⟩
 | some te =>
  obtain ⟨b, q, g1, g2⟩ := ho
  exact ⟨b, q, g1, c.rows rfl (Rows.of_w hw g2)⟩
theorem a0H (H : Hp P h0 W0 γ L h) {id tot z : Nat} {e : Option TypeId} {rows : List (List PV)} {v : Value} (hi : L[id]? = some (.fz e rows)) (ht : rows.length = tot) (hz : ∀ te, e = some te → szT P te = some z)
  (hd : DC P (qd W0 γ L h) γ L h (.ref id 0 tot tot) v) : DC P (qd W0 γ L h) γ L h (.p (.sl z rows)) v := by
 have hd' : DB P (qd W0 γ L h) γ L h (.ref id 0 tot tot) v := hd
 obtain ⟨k1, k2, k3⟩ := hd'
 obtain ⟨_, k5⟩ := k3 _ rows hi rfl
 obtain ⟨_, k7⟩ := k5 ht
 have ho := H.obj id _ hi
 show PR P (qd W0 γ L h) h (.sl z rows) v
 cases e with
 | none =>
  obtain ⟨rfl, hg⟩ := ho
  rcases k7 z (fun r hr => by simp at hr) with ⟨rfl | ⟨b, o, rfl⟩, _, _⟩ | ⟨b, o, c, rfl, h1, h2⟩ | ⟨b, o, c, g, _⟩
  ·exact .nil
  ·exact .zero
  ·omega
  ·rw [hg] at g; cases g
 | some te =>
  obtain ⟨b, o, g1, g2, cs, z1, a1, a2, a3, a4, a5, a6, a7⟩ := ho
  have : z = z1 := by have := hz te rfl; rw [a2] at this; cases this; rfl
  subst this
  rcases k7 z a6 with ⟨_, _, hg⟩ | ⟨b, o, c, rfl, h1, h2⟩ | ⟨b', o', c, g, rfl, d1, d2, d3⟩
  ·rw [g1] at hg; cases hg
  ·omega
  ·rw [g1] at g; cases g
   subst ht
   simp only [Nat.zero_mul, Nat.add_zero]
   exact .sl g2 a1 a3 a4 (fun i r hr => a6 r (List.mem_of_getElem? hr)) (fun i r j x u e1 e2 e3 => a7 i r j x u e1 e2 e3) (.inr ⟨rfl, a2, d3⟩) a5
end
section
variable {P : Program} {γ : Pl} {L : List TO} {h : Heap} {h0 : Heap} {W0 : Ent}
theorem xI {loc : Bool} {e : TypeId} {n z : Nat} (h : szT P e = some z) : ∀ te, eo loc e n = some te → szT P te = some z := by
 intro te ht
 unfold eo at ht
 split at ht
 ·cases ht; exact h
 ·split at ht
  ·cases ht
  ·cases ht; exact h
def FrzOk (P : Program) (h0 : Heap) (W0 : Ent) (γ : Pl) (L : List TO) (h : Heap) (L' : List TO) : Prop := Hp P h0 W0 γ (eL L') h ∧ Carry W0 γ (eL L) h γ (eL L') h
theorem Wa (H : Hp P h0 W0 γ (eL L) h) {x : TV} {v : Value} (hd : DC P (qd W0 γ (eL L) h) γ (eL L) h (qr x) v) {x' : TV} {L' : List TO} {q : List (Nat × Nat)} (e : a5n P L x = (x', L', q)) (hq : ∀ p ∈ q, p.1 = p.2) :
  FrzOk P h0 W0 γ L h L' ∧ DC P (qd W0 γ (eL L') h) γ (eL L') h (qr x') v := by
 have same : ∀ {x'' : TV}, (x, L, ([] : List (Nat × Nat))) = (x', L', q) → FrzOk P h0 W0 γ L h L' ∧ DC P (qd W0 γ (eL L') h) γ (eL L') h (qr x') v := by
  intro _ e; cases e; exact ⟨⟨H, Carry.refl _ _ _⟩, hd⟩
 unfold a5n at e
 split at e
 ·rename_i id tot
  split at e
  ·rename_i c te loc xs hL
   split at e
   ·rename_i hs
    cases e
    have ht : xs.length = tot := hq _ List.mem_cons_self
    have hi : (eL L)[id]? = some (.li (eo loc te xs.length) (xs.map (qM c))) := z7 hL
    obtain ⟨H', c'⟩ := YJ H hi
    rw [show (eL L).set id (.fz (eo loc te xs.length) (xs.map (qM c))) = eL (L.set id (.fz c te loc xs)) from (yR L id (.fz c te loc xs)).symm] at H' c'
    refine ⟨⟨H', c'⟩, ?_⟩
    have hlt : id < L.length := (List.getElem?_eq_some_iff.1 hL).1
    exact a0H H' (e := eo loc te xs.length) (rows := xs.map (qM c)) (z7 (by rw [List.getElem?_set_self hlt])) (by simpa using ht) (xI hs) (c'.dc hd)
   ·exact same (x'' := .ref id tot) e
  ·rename_i c te loc xs hL
   split at e
   ·rename_i hs
    cases e
    have ht : xs.length = tot := hq _ List.mem_cons_self
    refine ⟨⟨H, Carry.refl _ _ _⟩, ?_⟩
    exact a0H H (e := eo loc te xs.length) (rows := xs.map (qM c)) (z7 hL) (by simpa using ht) (xI hs) hd
   ·exact same (x'' := .ref id tot) e
  ·exact same (x'' := .ref id tot) e
 ·exact same (x'' := x) e
theorem Carry.trans' {L1 L2 L3 : List Obj} {h1 h2 h3 : Heap} {γ1 γ2 γ3 : Pl} (c : Carry W0 γ1 L1 h1 γ2 L2 h2) (c2 : Carry W0 γ2 L2 h2 γ3 L3 h3) : Carry W0 γ1 L1 h1 γ3 L3 h3 :=
 ⟨fun b hb => ⟨(c2.free b (c.free b hb).1).1, (c2.free b (c.free b hb).1).2.trans (c.free b hb).2⟩, Nat.le_trans c.len c2.len, fun i b e hs => by
   obtain ⟨a1, a2⟩ := c.st i b e hs
   exact c2.st i b a1 a2, fun i b e hs => by
   obtain ⟨a1, a2⟩ := c.mp i b e hs
   exact c2.mp i b a1 a2, fun i o' rows' hi' e' hl' => by
   obtain ⟨o1, r1, b1, b2, b3, b4⟩ := c2.li i o' rows' (Nat.lt_of_lt_of_le hi' c.len) e' hl'
   obtain ⟨o2, r2, c1, c2', c3, c4⟩ := c.li i o1 r1 hi' b1 b2
   refine ⟨o2, r2, c1, c2', Nat.le_trans c3 b3, fun e5 => ?_⟩
   obtain ⟨d1, d2⟩ := b4 (by omega)
   obtain ⟨d3, d4⟩ := c4 (by omega)
   exact ⟨d1.trans d3, fun z hz => d4 z (d2 z hz)⟩⟩
theorem vQ : ∀ {L : List TO} {xs : List TV} {vs : List Value} {xs' : List TV} {L' : List TO} {q : List (Nat × Nat)}, Hp P h0 W0 γ (eL L) h → All2 (DC P (qd W0 γ (eL L) h) γ (eL L) h) (xs.map qr) vs → a0b P L xs = (xs', L', q) → (∀ p ∈ q, p.1 = p.2) →
  FrzOk P h0 W0 γ L h L' ∧ All2 (DC P (qd W0 γ (eL L') h) γ (eL L') h) (xs'.map qr) vs
 | L, [], vs, xs', L', q, H, hd, e, hq => by
  cases e
  exact ⟨⟨H, Carry.refl _ _ _⟩, hd⟩
 | L, x :: l, vs, xs', L', q, H, hd, e, hq => by
  cases hd with
  | cons hx ht =>
   unfold a0b at e
   cases h1 : a5n P L x with
   | mk x1 r1 =>
    obtain ⟨L1, q1⟩ := r1
    cases h2 : a0b P L1 l with
    | mk l2 r2 =>
     obtain ⟨L2, q2⟩ := r2
     simp only [h1, h2] at e
     cases e
     obtain ⟨⟨H1, c1⟩, d1⟩ := Wa H hx h1 fun p hp => hq p (by simp [hp])
     obtain ⟨⟨H2, c2⟩, d2⟩ := vQ H1 (ht.mono fun _ _ => c1.dc) h2 fun p hp => hq p (by simp [hp])
     exact ⟨⟨H2, c1.trans' c2⟩, .cons (c2.dc d1) d2⟩
theorem WC {L : List TO} (H : Hp P h0 W0 γ (eL L) h) {x : TV} {v : Value} (hd : DR P (qd W0 γ (eL L) h) γ (eL L) h (enc x) v) {x' : TV} {L' : List TO} {q : List (Nat × Nat)} (e : a8D P L x = (x', L', q)) (hq : ∀ p ∈ q, p.1 = p.2) :
  FrzOk P h0 W0 γ L h L' ∧ DR P (qd W0 γ (eL L') h) γ (eL L') h (enc x') v := by
 unfold a8D at e
 split at e
 ·rename_i xs
  cases h1 : a0b P L xs with
  | mk l2 r2 =>
   obtain ⟨L2, q2⟩ := r2
   simp only [h1] at e
   cases e
   obtain ⟨vs, rfl, hv⟩ := hd
   obtain ⟨a1, a2⟩ := vQ H hv h1 hq
   exact ⟨a1, vs, rfl, a2⟩
 ·rename_i hn
  by_cases hc : isC x = true
  ·have hx : DC P (qd W0 γ (eL L) h) γ (eL L) h (qr x) v := by
    rw [Qv hc] at hd
    cases x <;> first | exact hd | cases hc
   obtain ⟨a1, a2⟩ := Wa H hx e hq
   have hc' : isC x' = true := by
    unfold a5n at e
    split at e
    ·split at e
     ·split at e <;> (cases e; rfl)
     ·split at e <;> (cases e; rfl)
     ·cases e; rfl
    ·cases e; exact hc
   refine ⟨a1, ?_⟩
   rw [Qv hc']
   cases x' <;> first | exact a2 | cases hc'
  ·cases x with
   | agg xs => exact absurd rfl (hn xs)
   | tup xs => cases e; exact ⟨⟨H, Carry.refl _ _ _⟩, hd⟩
   | _ => exact absurd rfl hc
theorem Vf : ∀ {L : List TO} {xs : List (Nat × TV)} {vs : List (Nat × Value)} {xs' : List (Nat × TV)} {L' : List TO} {q : List (Nat × Nat)}, Hp P h0 W0 γ (eL L) h → All2 (fun d v => d.1 = v.1 ∧ DR P (qd W0 γ (eL L) h) γ (eL L) h d.2 v.2) (xs.map fun p => (p.1, enc p.2)) vs → a0a P L xs = (xs', L', q) → (∀ p ∈ q, p.1 = p.2) →
  FrzOk P h0 W0 γ L h L' ∧ All2 (fun d v => d.1 = v.1 ∧ DR P (qd W0 γ (eL L') h) γ (eL L') h d.2 v.2) (xs'.map fun p => (p.1, enc p.2)) vs
 | L, [], vs, xs', L', q, H, hd, e, hq => by
  cases e
  exact ⟨⟨H, Carry.refl _ _ _⟩, hd⟩
 | L, (i, x) :: l, vs, xs', L', q, H, hd, e, hq => by
  cases hd with
  | cons hx ht =>
   unfold a0a at e
   cases h1 : a8D P L x with
   | mk x1 r1 =>
    obtain ⟨L1, q1⟩ := r1
    cases h2 : a0a P L1 l with
    | mk l2 r2 =>
     obtain ⟨L2, q2⟩ := r2
     simp only [h1, h2] at e
     cases e
     obtain ⟨⟨H1, c1⟩, d1⟩ := WC H hx.2 h1 fun p hp => hq p (by simp [hp])
     obtain ⟨⟨H2, c2⟩, d2⟩ := Vf H1 (ht.mono fun _ _ hh => ⟨hh.1, c1.dr hh.2⟩) h2 fun p hp => hq p (by simp [hp])
     exact ⟨⟨H2, c1.trans' c2⟩, .cons ⟨hx.1, c2.dr d1⟩ d2⟩
end
open Go.RowKit
theorem af0 (id off : Nat) : enc (.ptr id off) = .ptr id off := rfl
theorem ah5 (id i off tot : Nat) : enc (.ep id i off tot) = .ep id i off tot := rfl
theorem XT {z : List PV} {c : CT} {x : c.T} (h : All2 unP (qM c x) z) : ∀ n : Nat, All2 (All2 unP) (List.replicate n (qM c x)) (List.replicate n z)
 | 0 => .nil
 | n + 1 => .cons h (XT h n)
section
variable {R : Type}
def KT (K : TV → List TO → Tree R) (z : R) : DV → List Obj → Prop := fun d L' => ∃ td tL, d = enc td ∧ L' = eL tL ∧ (K td tL).run = some z
def Zg (P : Program) (h0 : Heap) (W0 : Ent) (γ : Pl) (L : List TO) (h : Heap) (K : TV → List TO → Tree R) (z : R) (v : Value) (h' : Heap) : Prop :=
 ∃ γ' d L', (K d L').run = some z ∧ Hp P h0 W0 γ' (eL L') h' ∧ Carry W0 γ (eL L) h γ' (eL L') h' ∧ DR P (qd W0 γ' (eL L') h') γ' (eL L') h' (enc d) v
variable {P : Program} {γ : Pl} {L : List TO} {h : Heap} {h0 : Heap} {W0 : Ent} {z : R} {K : TV → List TO → Tree R}
theorem adA {v : Value} {h' : Heap} (q : Aft P h0 W0 γ (eL L) h (KT K z) v h') : Zg P h0 W0 γ L h K z v h' := by
 obtain ⟨γ', d, L', ⟨td, tL, rfl, rfl, hk⟩, a, b, c⟩ := q
 exact ⟨γ', td, tL, hk, a, b, c⟩
abbrev TWr := FuncId → List TV → List TO → List Nat
def VKept (γ : Pl) (L : List TO) (h h' : Heap) (ids : List Nat) : Prop := ∀ id b, γ id = some (b, 0) → (∃ c, (eL L)[id]? = some (.st c)) → id ∉ ids → h'.get b = h.get b
def TCallOk (P : Program) (call : wD R) (wr : TWr) : Prop := ∀ k ds L K z, (call k ds L K).run = some z → ∀ h0 W0 γ h vs, Hp P h0 W0 γ (eL L) h → All2 (DR P (qd W0 γ (eL L) h) γ (eL L) h) (ds.map enc) vs →
 ADoes P k vs h (fun v h' => Aft P h0 W0 γ (eL L) h (KT K z) v h' ∧ VKept γ L h h' (wr k ds L))
theorem TCallOk.weak {call : wD R} {wr : TWr} (h : TCallOk P call wr) {k : FuncId} {ds : List TV} (hz : (call k ds L K).run = some z) : xn P k (ds.map enc) (eL L) (KT K z) := fun h0 W0 γ hh vs H hr => (h k ds L K z hz h0 W0 γ hh vs H hr).mono fun _ _ q => q.1
theorem a16 {ρ : Zq} {x : Option Operand} {n : Option Int} (h : Uw ρ x = some n) : ∃ v, Vr (QE ρ) x = some v ∧ BdV n v := by
 unfold Uw at h
 unfold Vr
 first | (rw [qa] at h; split at h) | split at h
 ·cases h; exact ⟨none, rfl, trivial⟩
 ·rename_i x
  first | (rw [qa] at h; split at h) | split at h
  ·rename_i d hd
   simp only [QE, hd, Option.map_some]
   cases hi : Ug d with
   | none => rw [hi] at h; cases h
   | some m =>
    rw [hi] at h; cases h
    unfold Ug at hi
    split at hi
    ·cases hi; exact ⟨some _, rfl, rfl⟩
    ·cases hi
  ·cases h
theorem UI : ∀ {l : List TV}, l.all agR = true → ∃ ps, All2 X6 l ps
 | [], _ => ⟨[], .nil⟩
 | d :: l, h => by
  simp only [List.all_cons, Bool.and_eq_true] at h
  obtain ⟨ps, hp⟩ := UI h.2
  cases d <;> first | exact ⟨_ :: ps, .cons rfl hp⟩ | cases h.1
theorem a5C : ∀ {l : List TV} {ps qs : List PV}, All2 X6 l ps → All2 X6 l qs → ps = qs
 | _, _, _, .nil, .nil => rfl
 | _, _, _, .cons (a := a) h t, .cons h' t' => by
  rw [a5C t t']
  congr 1
  cases a <;> first | exact (show _ = _ from h).trans (show _ = _ from h').symm | exact h.elim
theorem xk : ∀ (c : CT) (x : c.T), All2 X6 (tvC c x) (qM c x)
 | .int _, _ => .cons rfl .nil
 | .bool, _ => .cons rfl .nil
 | .str, _ => .cons rfl .nil
 | .sl _, _ => .cons rfl .nil
 | .pair a b, x => (xk a x.1).append (xk b x.2)
theorem a55 : ∀ {vs : List TV} {ps : List PV} {cs : List TV} {qs : List PV} (i : Nat), All2 X6 cs qs → All2 X6 vs ps → All2 X6 (kY cs i vs) (kK qs i ps)
 | [], _, cs, qs, i, h, .nil => h
 | v :: vs, _, cs, qs, i, h, .cons a t => a55 (i + 1) (h.set a i) t
theorem a9m : ∀ ps : List PV, pvs (ps.map .p) = some ps
 | [] => rfl
 | p :: l => by simp only [List.map_cons, pvs, a9m l, Option.map_some]
theorem VL {l : List TV} {ps : List PV} (h : All2 X6 l ps) : pvs (l.map qr) = some ps := by rw [a4G h, a9m]
theorem aaW {c : CT} {xs : List c.T} {i : Nat} {z : c.T} {row : List PV} (h : All2 unP (qM c z) row) : QS ((xs.set i z).map (qM c)) ((xs.map (qM c)).set i row) := by
 refine .inr ?_
 rw [List.map_set]
 exact (All2.refl_of (fun r => All2.refl_of a5v r) _).set h i
theorem Y0 {t : TypeId} {p x : TV} {v u : Value} {Ks : List TO → Tree R} (H : Hp P h0 W0 γ (eL L) h) (hp : DR P (qd W0 γ (eL L) h) γ (eL L) h (enc p) v) (hx : DR P (qd W0 γ (eL L) h) γ (eL L) h (enc x) u) (e : (a2h P L t p x Ks).run = some z) :
  ∃ h' L', wm P t h v u = some h' ∧ Hp P h0 W0 γ (eL L') h' ∧ Carry W0 γ (eL L) h γ (eL L') h' ∧ (Ks L').run = some z := by
 unfold a2h at e
 first | (rw [qa] at e; split at e) | split at e
 ·rename_i id off
  first | (rw [qa] at e; split at e) | split at e
  ·rename_i cells hL
   first | (rw [qa] at e; split at e) | split at e
   ·rename_i hc
    obtain ⟨h', a, b, c⟩ := Zs (t := t) (L' := (eL L).set id (.st ((kY cells off (wl x)).map qr))) H hp hx (by
     unfold ZR
     simp only [af0, z7 hL, kh]
     rw [Zh, Z1 hc.1, List.length_map, List.length_map, if_pos hc, Qz])
    refine ⟨h', _, a, ?_, ?_, e⟩
    ·rw [yR]; exact b
    ·rw [yR]; exact c
   ·cases e
  ·cases e
 ·rename_i id i off tot
  cases hf : a8D P L x with
  | mk x' r =>
   obtain ⟨L1, q⟩ := r
   simp only [hf] at e
   first | (rw [qa] at e; split at e) | split at e
   ·rename_i c te loc xs hL
    first | (rw [qa] at e; split at e) | split at e
    ·rename_i hc
     first | (rw [qa] at e; split at e) | split at e
     ·rename_i ht
      replace e := kg e; obtain ⟨y, hy, e⟩ := e
      replace e := q9 e; obtain ⟨zz, hz, e⟩ := e
      replace e := zS e; obtain ⟨hq, e⟩ := e
      obtain ⟨⟨H1, c1⟩, hx1⟩ := WC H hx hf hq
      have hp1 := c1.dr hp
      obtain ⟨ps, hps⟩ := UI hc.2.2.2
      have hlen := hps.length
      obtain ⟨row, hr1, hr2⟩ := Ye hz
      have hrow : row = kK (qM c y) off ps := a5C hr1 (a55 off (xk c y) hps)
      subst hrow
      obtain ⟨h', a, b, c2⟩ := Zs (t := t) (L' := (eL L1).set id (.li (eo loc te xs.length) ((xs.map (qM c)).set i (kK (qM c y) off ps)))) H1 hp1 hx1 (by
       unfold ZR
       simp only [ah5, z7 hL, kh, List.length_map, if_pos ht, List.getElem?_map, hy, Option.map_some]
       rw [Zh, if_pos hc.1, Z1 hc.1, VL hps]
       simp only
       rw [if_pos ⟨by rw [← hlen]; exact hc.2.1, by rw [← hlen, k9]; exact hc.2.2.1⟩])
      have hlt : id < (eL L1).length := by rw [zH]; exact (List.getElem?_eq_some_iff.1 hL).1
      obtain ⟨b', c3⟩ := a1G b (id := id) (List.getElem?_set_self hlt) (aaW (c := c) (xs := xs) (i := i) (z := zz) hr2)
      rw [List.set_set] at b' c3
      have he : (eL L1).set id (.li (eo loc te xs.length) ((xs.set i zz).map (qM c))) = eL (L1.set id (.li c te loc (xs.set i zz))) := by rw [yR]; simp [kh]
      rw [he] at b' c3
      exact ⟨h', _, a, b', (c1.trans' c2).trans' c3, e⟩
     ·cases e
    ·cases e
   ·cases e
 ·cases e
theorem Yp {c : CT} : ∀ (ps : List (Nat × TV)) (rows out : List c.T) (drows : List (List PV)), All2 (All2 unP) (rows.map (qM c)) drows → Jq c rows ps = some out →
  ∃ dout, wo c.size drows (ps.map fun p => (p.1, enc p.2)) = some dout ∧ All2 (All2 unP) (out.map (qM c)) dout
 | [], rows, out, drows, hw, h => by cases h; exact ⟨drows, rfl, hw⟩
 | (i, d) :: r, rows, out, drows, hw, h => by
  unfold Jq at h
  simp only [List.map_cons, wo]
  first | (rw [qa] at h; split at h) | split at h
  ·rename_i hc
   first | (rw [qa] at h; split at h) | split at h
   ·rename_i y hy
    obtain ⟨ps, h1, h2⟩ := Ye hy
    have hl : i < drows.length := by rw [← hw.length]; simpa using hc.2
    rw [Zh, if_pos ⟨hc.1, hl⟩, Z1 hc.1, VL h1]
    simp only
    rw [if_pos (by rw [← h2.length, k9])]
    exact Yp r _ _ _ (by rw [List.map_set]; exact hw.set h2 i) h
   ·cases h
  ·cases h
theorem Yh {ty : TypeId → Option CT} {t : TypeId} {len : Nat} {ps : List (Nat × TV)} {qs : List (Nat × Value)} (H : Hp P h0 W0 γ (eL L) h)
  (hr : All2 (fun d v => d.1 = v.1 ∧ DR P (qd W0 γ (eL L) h) γ (eL L) h d.2 v.2) (ps.map fun p => (p.1, enc p.2)) qs) (e : (KR P ty L t len ps K).run = some z) :
  ∃ q mk, kM P t len qs = some (q, mk) ∧ Zg P h0 W0 γ L h K z (mk h.next) (h.push q) := by
 unfold KR at e
 first | (rw [qa] at e; split at e) | split at e
 ·rename_i te hu
  replace e := q9 e; obtain ⟨c, hc, e⟩ := e
  replace e := q9 e; obtain ⟨z0, hz0, e⟩ := e
  first | (rw [qa] at e; split at e) | split at e
  ·rename_i hcond
   cases hf : a0a P L ps with
   | mk ps' r =>
    obtain ⟨L1, q⟩ := r
    simp only [hf] at e
    replace e := q9 e; obtain ⟨rows, hrows, e⟩ := e
    replace e := zS e; obtain ⟨hq, e⟩ := e
    obtain ⟨⟨H1, c1⟩, hr1⟩ := Vf H hr hf hq
    cases hzt : vU P te with
    | none => rw [hzt] at hz0; cases hz0
    | some zc =>
     rw [hzt] at hz0
     obtain ⟨zr, q1, q2⟩ := Ye (show a3F c zc = some z0 from hz0)
     obtain ⟨dout, d1, d2⟩ := Yp ps' (List.replicate len z0) rows (List.replicate len zr) (by
      rw [List.map_replicate]
      exact XT q2 len) hrows
     have hbs : jy P (eL L1) t len (ps'.map fun p => (p.1, enc p.2)) = some (.ref L1.length 0 len len, eL L1 ++ [.li (some te) dout]) := by
      unfold jy
      rw [hu]
      simp only [Y1, hzt, Option.map_some, Option.bind_some, VL q1, hcond.1]
      rw [if_pos ⟨by rw [← q2.length, k9], hcond.2.1, CT.size_pos c, hcond.2.2⟩, d1, zH]
     obtain ⟨qq, mk, m1, m2⟩ := Qt (K := fun d L' => d = .ref L1.length 0 len len ∧ L' = eL L1 ++ [.li (some te) dout]) H1 hr1 hbs ⟨rfl, rfl⟩
     refine ⟨qq, mk, m1, ?_⟩
     obtain ⟨γ', d, L', ⟨rfl, rfl⟩, a, b, d3⟩ := m2
     have hlt : L1.length < (eL L1 ++ [Obj.li (some te) dout]).length := by simp [zH]
     obtain ⟨b', c3⟩ := a1G a (id := L1.length) (e := some te) (rows := dout) (by simp [zH]) (.inr d2)
     have he : (eL L1 ++ [Obj.li (some te) dout]).set L1.length (.li (some te) (rows.map (qM c))) = eL (L1 ++ [.li c te true rows]) := by
      rw [j9, List.set_append_right _ _ (by rw [zH]; exact Nat.le_refl _)]
      simp [zH, kh, eo]
     rw [he] at b' c3
     exact ⟨γ', _, _, e, b', (c1.trans' b).trans' c3, c3.dr d3⟩
  ·cases e
 ·cases e
end
open Go.RowKit
section
variable {R : Type} {P : Program} {γ : Pl} {L : List TO} {h : Heap} {h0 : Heap} {W0 : Ent} {z : R} {K : TV → List TO → Tree R}
theorem zV {ρ : Zq} {r : Rho} (hρ : YG P W0 γ (eL L) h (QE ρ) r) {x : Operand} {d : TV} (e : ρ x = some d) : ∃ v, r x = some v ∧ DR P (qd W0 γ (eL L) h) γ (eL L) h (enc d) v := hρ x _ (by unfold QE; rw [e]; rfl)
theorem qN {ρ : Zq} {x : Operand} {d : TV} (e : ρ x = some d) : QE ρ x = some (enc d) := by unfold QE; rw [e]; rfl
theorem KT.mk {d : TV} {L' : List TO} (h : (K d L').run = some z) : KT K z (enc d) (eL L') := ⟨d, L', rfl, rfl, h⟩
theorem aa0 {t x y : Bool} {d : DV} (hd : d = enc (.v (.bool (cond t x y)))) : Kn (some (.p (.v (.bool t)))) (some (.p (.v (.bool x)))) (some (.p (.v (.bool y)))) = some d := by
 subst hd; cases t <;> rfl
theorem ab0 {c a b : Option TV} {K : TV → Tree R} (h : (acM c a b K).run = some z) : ∃ r, Kn (c.map enc) (a.map enc) (b.map enc) = some (enc r) ∧ (K r).run = some z := by
 unfold acM at h
 first | (rw [qa] at h; split at h) | split at h
 ·rename_i t
  first | (rw [qa] at h; split at h) | split at h
  ·rename_i x y
   exact ⟨_, aa0 rfl, h⟩
  ·rename_i a b hn
   cases t with
   | true =>
    replace h := q9 h; obtain ⟨r, h1, h2⟩ := h
    exact ⟨r, by subst h1; rfl, h2⟩
   | false =>
    replace h := q9 h; obtain ⟨r, h1, h2⟩ := h
    exact ⟨r, by subst h1; rfl, h2⟩
 ·cases h
theorem afR {S : Nat → Prop} {c : CT} {xs : List c.T} {op : BinOp} {t : TypeId} {b0 : Bool} (hop : (op = .eql ∧ b0 = true) ∨ (op = .neq ∧ b0 = false)) (ht : a4v P t = true) {v : Value} (hv : PR P S h (.sl c.size (xs.map (qM c))) v) :
  ∃ b, qZ P op t v (.slice none 0 0) = some (.bool b) ∧ (b = b0 ∨ b = !b0) ∧ (xs.length ≠ 0 → b = !b0) := by
 unfold a4v at ht
 split at ht
 ·rename_i e hu
  have q1 : qZ P op t (.slice none 0 0) (.slice none 0 0) = some (.bool b0) := by
   rcases hop with ⟨rfl, rfl⟩ | ⟨rfl, rfl⟩
   ·exact a4N hu
   ·exact a38 hu
  have q2 : ∀ a n k, qZ P op t (.slice (some a) n k) (.slice none 0 0) = some (.bool (!b0)) := by
   intro a n k
   rcases hop with ⟨rfl, rfl⟩ | ⟨rfl, rfl⟩
   ·exact ac8 hu a n k
   ·exact adU hu a n k
  generalize hrows : xs.map (qM c) = rows at hv
  have hl : xs.length = rows.length := by rw [← hrows, List.length_map]
  cases hv with
  | nil => exact ⟨b0, q1, .inl rfl, fun q => absurd hl q⟩
  | dud => exact ⟨!b0, q2 _ _ _, .inr rfl, fun _ => rfl⟩
  | zero => exact ⟨!b0, q2 _ _ _, .inr rfl, fun _ => rfl⟩
  | sl => exact ⟨!b0, q2 _ _ _, .inr rfl, fun _ => rfl⟩
 ·cases ht
theorem agc {op : BinOp} {x y : TV} (h : a2w op x y = true) : ∃ (c : CT) (xs : List c.T) (b0 : Bool), x = .sl c xs ∧ y = .v (.slice none 0 0) ∧ ((op = .eql ∧ b0 = true) ∨ (op = .neq ∧ b0 = false)) := by
 unfold a2w at h
 split at h
 ·exact ⟨_, _, true, rfl, rfl, .inl ⟨rfl, rfl⟩⟩
 ·exact ⟨_, _, false, rfl, rfl, .inr ⟨rfl, rfl⟩⟩
 ·cases h
theorem acb {n : Nat} {b0 b : Bool} {K : TV → Tree R} (h : (acX n b0 K).run = some z) (hb : (b = b0 ∨ b = !b0) ∧ (n ≠ 0 → b = !b0)) : (K (.v (.bool b))).run = some z := by
 unfold acX at h
 by_cases hn : n = 0
 ·subst hn
  have h' : bothM (K (.v (.bool b0))).run (K (.v (.bool (!b0)))).run = some z := h
  obtain ⟨h1, h2⟩ := a5H h'
  rcases hb.1 with rfl | rfl
  ·exact h1
  ·exact h2
 ·have h' : (match decide (n = 0) with
   | true => bothM (K (.v (.bool b0))).run (K (.v (.bool (!b0)))).run
   | false => (K (.v (.bool (!b0)))).run) = some z := h
  rw [decide_eq_false hn] at h'
  rw [hb.2 hn]; exact h'
theorem ji {ty : TypeId → Option CT} {call : wD R} {wr : TWr} (hcall : TCallOk P call wr) {o : Op} {ρ : Zq} {r : Rho} (H : Hp P h0 W0 γ (eL L) h) (hρ : YG P W0 γ (eL L) h (QE ρ) r) (e : (WM P ty call o ρ L K).run = some z) : qB P o r h (Zg P h0 W0 γ L h K z) := by
 have go : zB P o (QE ρ) (eL L) (KT K z) → qB P o r h (Zg P h0 W0 γ L h K z) := fun hd => wL (fun v h' q => adA q) (a9P H hρ hd)
 unfold WM at e
 first | (rw [qa] at e; split at e) | split at e
 ·replace e := q9 e; obtain ⟨d, h1, e⟩ := e
  refine go ?_
  unfold zB
  simp only [qN h1, qD]
  exact KT.mk e
 ·replace e := q9 e; obtain ⟨d, h1, e⟩ := e
  refine go ?_
  unfold zB
  simp only [qN h1, qD]
  exact KT.mk e
 ·obtain ⟨d, h1, h2⟩ := ab0 e
  refine go ?_
  unfold zB
  simp only
  unfold QE
  rw [h1]
  exact KT.mk h2
 ·replace e := q9 e; obtain ⟨ds, h1, e⟩ := e
  replace e := q9 e; obtain ⟨d, h2, e⟩ := e
  refine go ?_
  unfold zB
  simp only [YL, h1, Option.map_some, qD, a7h h2]
  exact KT.mk e
 ·replace e := q9 e; obtain ⟨x, h1, e⟩ := e
  replace e := q9 e; obtain ⟨d, h2, e⟩ := e
  refine go ?_
  unfold zB
  simp only [qN h1, qD, a6E h2]
  exact KT.mk e
 ·replace e := q9 e; obtain ⟨x, h1, e⟩ := e
  replace e := q9 e; obtain ⟨k, h2, e⟩ := e
  obtain ⟨d, h3, h4⟩ := a1T e
  refine go ?_
  unfold zB yb
  simp only [qN h1, qD, h2, h3]
  exact KT.mk h4
 ·replace e := q9 e; obtain ⟨x, h1, e⟩ := e
  replace e := q9 e; obtain ⟨v, h2, e⟩ := e
  replace e := q9 e; obtain ⟨d, h3, e⟩ := e
  refine go ?_
  unfold zB
  simp only [qN h1, qD, Q9, h2, Wq h3]
  exact KT.mk e
 ·rename_i op tt x0 y0 tr
  replace e := q9 e; obtain ⟨x, h1, e⟩ := e
  replace e := q9 e; obtain ⟨y, h2, e⟩ := e
  cases hn : a2w op x y with
  | true =>
   obtain ⟨c, xs, b0, rfl, rfl, hop⟩ := agc hn
   have e' : ∃ b0', b0' = b0 ∧ a4v P tt = true ∧ (acX xs.length b0' fun d => K d L).run = some z := by
    rcases hop with ⟨rfl, rfl⟩ | ⟨rfl, rfl⟩
    ·unfold acH at e
     simp only at e
     split at e
     ·rename_i ht; exact ⟨_, rfl, ht, e⟩
     ·cases e
    ·unfold acH at e
     simp only at e
     split at e
     ·rename_i ht; exact ⟨_, rfl, ht, e⟩
     ·cases e
   obtain ⟨_, rfl, ht, e2⟩ := e'
   obtain ⟨v, r1, d1⟩ := zV hρ h1
   obtain ⟨u, r2, d2⟩ := zV hρ h2
   have hu : u = .slice none 0 0 := PR.scal (P := P) (S := qd W0 γ (eL L) h) (h := h) d2
   subst hu
   obtain ⟨b, q1, q2, q3⟩ := afR (P := P) (h := h) hop ht d1
   simp only [qB, z8, r1, r2, q1]
   exact ⟨γ, .v (.bool b), L, acb e2 ⟨q2, q3⟩, H, Carry.refl _ _ _, PR.v rfl⟩
  | false =>
  obtain ⟨d, h3, h4⟩ := adZ hn e
  refine go ?_
  unfold zB
  simp only [qN h1, qN h2, qD, h3]
  exact KT.mk h4
 ·replace e := q9 e; obtain ⟨x, h1, e⟩ := e
  obtain ⟨d, L', h3, h4⟩ := aaC e
  refine go ?_
  unfold zB
  simp only [qN h1, qD, h3]
  exact KT.mk h4
 ·replace e := q9 e; obtain ⟨d, h2, e⟩ := e
  refine go ?_
  unfold zB
  simp only [kE, qD, aaa h2]
  exact KT.mk e
 ·replace e := q9 e; obtain ⟨x, h1, e⟩ := e
  replace e := q9 e; obtain ⟨y, h2, e⟩ := e
  obtain ⟨d, h3, h4⟩ := xg e
  refine go ?_
  unfold zB
  simp only [qN h1, qN h2, qD, h3]
  exact KT.mk h4
 ·replace e := q9 e; obtain ⟨x, h1, e⟩ := e
  replace e := q9 e; obtain ⟨y, h2, e⟩ := e
  obtain ⟨d, h3, h4⟩ := a3j e
  refine go ?_
  unfold zB
  simp only [qN h1, qN h2, qD, h3]
  exact KT.mk h4
 ·replace e := q9 e; obtain ⟨x, h1, e⟩ := e
  replace e := q9 e; obtain ⟨d, h2, e⟩ := e
  refine go ?_
  unfold zB
  simp only [qN h1, qD, a18 h2]
  exact KT.mk e
 ·replace e := q9 e; obtain ⟨x, h1, e⟩ := e
  obtain ⟨d, h3, h4⟩ := a1T e
  refine go ?_
  unfold zB a9o
  simp only [qN h1, qD, h3]
  exact KT.mk h4
 ·replace e := q9 e; obtain ⟨x, h1, e⟩ := e
  obtain ⟨d, h3, h4⟩ := Jo e
  refine go ?_
  unfold zB
  simp only [qN h1, qD, h3]
  exact KT.mk h4
 ·replace e := q9 e; obtain ⟨x, h1, e⟩ := e
  replace e := q9 e; obtain ⟨y, h2, e⟩ := e
  obtain ⟨v, r1, d1⟩ := zV hρ h1
  obtain ⟨u, r2, d2⟩ := zV hρ h2
  obtain ⟨h', L', a, b, c, hk⟩ := Y0 H d1 d2 e
  simp only [qB, r1, r2, a]
  exact ⟨γ, _, L', hk, b, c, ⟨#[], rfl, .nil⟩⟩
 ·replace e := q9 e; obtain ⟨x, h1, e⟩ := e
  replace e := q9 e; obtain ⟨lo, h2, e⟩ := e
  replace e := q9 e; obtain ⟨hi, h3, e⟩ := e
  obtain ⟨lv, l1, l2⟩ := a16 h2
  obtain ⟨hv, l3, l4⟩ := a16 h3
  obtain ⟨d, h4, h5⟩ := a8f l2 l4 e
  refine go ?_
  unfold zB
  simp only [qN h1, l1, l3, qD, US, h4]
  exact KT.mk h5
 ·replace e := q9 e; obtain ⟨x, h1, e⟩ := e
  first | (rw [qa] at e; split at e) | split at e
  ·rename_i hc
   refine go ?_
   unfold zB
   simp only [qN h1, qD]
   rw [Zh, Z1 hc.1, List.length_map]
   refine ⟨hc.1, hc.2, _, _, ?_, ?_, e⟩
   ·rw [zH]; rfl
   ·rw [j9]; rfl
  ·cases e
 ·replace e := q9 e; obtain ⟨x, h1, e⟩ := e
  refine go ?_
  unfold zB
  simp only [Y1, h1, Option.map_some, qD]
  refine ⟨_, _, ?_, ?_, e⟩
  ·rw [zH]; rfl
  ·rw [j9]; rfl
 ·replace e := q9 e; obtain ⟨ds, h1, e⟩ := e
  obtain ⟨vs, r1, d1⟩ := QA hρ (ds := ds.map fun p => (p.1, enc p.2)) (by rw [YL, h1]; rfl)
  obtain ⟨q, mk, a, b⟩ := Yh H d1 e
  simp only [qB, jp, r1, a]
  exact b
 ·replace e := q9 e; obtain ⟨f, h1, e⟩ := e
  replace e := q9 e; obtain ⟨ds, h2, e⟩ := e
  first | (rw [qa] at e; split at e) | split at e
  ·rename_i k pre cap
   first | (rw [qa] at e; split at e) | split at e
   ·rename_i hb
    simp only [Bool.and_eq_true] at hb
    refine go ?_
    unfold zB
    simp only [qN h1, kE, h2, Option.map_some, qD]
    have := hcall.weak e
    rw [List.map_append, List.map_append, (wQ hb.1).2, (wQ hb.2).2] at this
    exact this
   ·cases e
  ·cases e
 ·replace e := q9 e; obtain ⟨ds, h1, e⟩ := e
  first | (rw [qa] at e; split at e) | split at e
  ·obtain ⟨d, L', h3, h4⟩ := Va e
   refine go ?_
   unfold zB
   simp only [kE, h1, Option.map_some, qD, List.map_cons, List.map_nil, h3]
   exact KT.mk h4
  ·cases e
 ·replace e := q9 e; obtain ⟨ds, h1, e⟩ := e
  first | (rw [qa] at e; split at e) | split at e
  ·rename_i x t ht
   obtain ⟨d, h3, h4⟩ := UK e
   refine go ?_
   unfold zB
   simp only [kE, h1, Option.map_some, qD, List.map_cons, List.map_nil, ht, h3]
   exact KT.mk h4
  ·cases e
 ·replace e := q9 e; obtain ⟨ds, h1, e⟩ := e
  replace e := q9 e; obtain ⟨vs, h2, e⟩ := e
  replace e := q9 e; obtain ⟨d, h3, e⟩ := e
  refine go ?_
  unfold zB
  simp only [kE, h1, Option.map_some, qD, Wx, h2, Wq h3]
  exact KT.mk e
 ·replace e := q9 e; obtain ⟨ds, h1, e⟩ := e
  replace e := q9 e; obtain ⟨vs, h2, e⟩ := e
  replace e := q9 e; obtain ⟨d, h3, e⟩ := e
  refine go ?_
  unfold zB
  simp only [kE, h1, Option.map_some, qD, Wx, h2, Wq h3]
  exact KT.mk e
 ·cases e
end
open Go.RowKit
def J0 {R : Type} (n : Int) : Nat → (Nat → Tree R) → Tree R
 | 0, _ => .fail
 | m + 1, K => .cond (decide (n = (m : Int))) (K m) (J0 n m K)
theorem kO {R : Type} {z : R} {n : Int} : ∀ {m : Nat} {K : Nat → Tree R}, (J0 n m K).run = some z → ∃ k, k < m ∧ n = k ∧ (K k).run = some z
 | 0, K, h => by cases h
 | m + 1, K, h => by
  unfold J0 at h
  by_cases hn : n = (m : Int)
  ·rw [decide_eq_true hn] at h
   exact ⟨m, Nat.lt_succ_self m, hn, h⟩
  ·rw [decide_eq_false hn] at h
   obtain ⟨k, h1, h2, h3⟩ := kO (m := m) h
   exact ⟨k, by omega, h2, h3⟩
section
variable {P : Program} {S : Nat → Prop} {h : Heap}
theorem PR.part {z b o c : Nat} {rows : List (List PV)} {cs : List Value} {te : TypeId} {rw : Bool} (hS : S b) (hg : h.get b = some (.cells cs te rw)) (h0z : 0 < z) (hl : o + rows.length * z ≤ cs.length)
  (hw : ∀ (i : Nat) (r : List PV), rows[i]? = some r → r.length = z)
  (hrr : ∀ (i : Nat) (r : List PV) (j : Nat) (x : PV) (u : Value), rows[i]? = some r → r[j]? = some x → cs[o + i * z + j]? = some u → PR P S h x u)
  (hm : rows.length ≤ maxLen) {l r : Nat} (hlr : l ≤ r) (hr : r ≤ rows.length) (hc : CapOk P c (r - l) rw te z) : PR P S h (.sl z ((rows.drop l).take (r - l))) (.slice (some ⟨b, o + l * z, none⟩) (r - l) c) := by
 have hlen : ((rows.drop l).take (r - l)).length = r - l := by simp; omega
 have hmul : r * z ≤ rows.length * z := Nat.mul_le_mul_right _ hr
 have hsub : (r - l) * z = r * z - l * z := Nat.sub_mul _ _ _
 have hlz : l * z ≤ r * z := Nat.mul_le_mul_right _ hlr
 have := PR.sl (P := P) (S := S) (h := h) (rows := (rows.drop l).take (r - l)) (b := b) (o := o + l * z) (c := c) (z := z) hS hg h0z (by rw [hlen, hsub]; omega)
  (fun i q e1 => by
   rw [List.getElem?_take] at e1
   split at e1
   ·rw [List.getElem?_drop] at e1; exact hw _ q e1
   ·cases e1)
  (fun i q j x u e1 e2 e3 => by
   rw [List.getElem?_take] at e1
   split at e1
   ·rw [List.getElem?_drop] at e1
    exact hrr (l + i) q j x u e1 e2 (by rw [← e3]; congr 1; rw [Nat.add_mul]; omega)
   ·cases e1) (by rw [hlen]; exact hc) (by rw [hlen]; omega)
 rw [hlen] at this
 exact this
theorem YI {z : Nat} {rows : List (List PV)} {v : Value} {t te : TypeId} {lo hi mx : Option Value} {l r : Nat} (hv : PR P S h (.sl z rows) v) (hu : P.underlying t = some (.slice te)) (hs : szT P te = some z) (hb : qE rows.length rows.length lo hi mx = some (l, r, some r)) :
  ∃ u, z9 P (qV P h) t v lo hi mx = some u ∧ ((l = r ∧ a6W u) ∨ (l < r ∧ CxV P S h z ((rows.drop l).take (r - l)) u)) := by
 have hdu : dud > maxLen := by decide
 have hun : unk > maxLen := by decide
 have hno : qG > maxLen := by decide
 have hnu : qG ≠ unk := by decide
 obtain ⟨_, hlr, hr, _⟩ := yP (Nat.le_refl _) hb
 unfold z9
 simp only [hu]
 cases hv with
 | nil =>
  simp only [List.length_nil] at hb hr
  have : l = r := by omega
  simp only [hs, hb]
  exact ⟨_, rfl, .inl ⟨this, .inl rfl⟩⟩
 | dud =>
  simp only [List.length_nil] at hb hr
  have : l = r := by omega
  simp only [hs]
  rw [show qP 0 dud = 0 from by decide]
  simp only [hb, if_true]
  exact ⟨_, rfl, .inl ⟨this, .inr ⟨_, _, rfl⟩⟩⟩
 | @zero _ bz oz =>
  simp only [List.length_nil] at hb hr
  have hl0 : l = 0 := by omega
  have hr0 : r = 0 := by omega
  subst hl0 hr0
  simp only [hs]
  rw [show qP 0 0 = 0 from by decide]
  simp only [hb]
  rw [if_neg (by decide), if_neg (by simp)]
  exact ⟨.slice (some ⟨bz, oz, none⟩) 0 0, by simp, .inl ⟨trivial, .inr ⟨_, _, rfl⟩⟩⟩
 | sl hS hg h0z hl hw hrr hc hm =>
  rename_i b o c cs te' rw'
  have hcap : rows.length ≤ qP rows.length c := by
   unfold qP
   rcases hc with rfl | ⟨_, _, rfl | ⟨h1, h2⟩⟩
   ·rw [if_neg hnu, if_pos rfl]; exact Nat.le_refl _
   ·rw [if_pos rfl]; exact Nat.le_refl _
   ·rw [if_neg (by omega), if_neg (by omega), if_neg (by omega)]; exact h1
  have hbd := (yP hcap hb).1
  simp only [hs, hbd]
  rw [if_neg hc.nodud]
  have hE : ¬ (c ≠ qG ∧ ¬ (rows.length = 0 ∧ c = 0) ∧ qV P h b ≠ some z) := by
   rintro ⟨h1, _, h2⟩
   rcases hc with rfl | ⟨rfl, h3, _⟩
   ·exact h1 rfl
   ·exact h2 (by unfold qV; rw [hg]; exact h3)
  rw [if_neg hE]
  by_cases hq : r = l
  ·rw [if_pos hq]
   exact ⟨_, rfl, .inl ⟨hq.symm, .inr ⟨_, _, by rw [hq, Nat.sub_self]⟩⟩⟩
  ·rw [if_neg hq]
   have hlt : l < r := by omega
   have hlen : ((rows.drop l).take (r - l)).length = r - l := by simp; omega
   have hne : (rows.drop l).take (r - l) ≠ [] := fun q => by rw [q] at hlen; simp at hlen; omega
   by_cases hcn : c = qG
   ·rw [if_pos ⟨hcn, trivial⟩]
    exact ⟨_, rfl, .inr ⟨hlt, hne, .inl ⟨_, rfl, rfl, PR.part hS hg h0z hl hw hrr hm hlr hr (.inl rfl)⟩⟩⟩
   ·rw [if_neg (fun q => hcn q.1), if_neg hcn]
    rcases hc with hc | ⟨h1, h2, h3⟩
    ·exact absurd hc hcn
    ·refine ⟨_, rfl, .inr ⟨hlt, hne, .inr ⟨b, o + l * z, by rw [hlen], ?_⟩⟩⟩
     exact PR.part hS hg h0z hl hw hrr hm hlr hr (.inr ⟨h1, h2, .inr ⟨Nat.le_refl _, by omega⟩⟩)
theorem Xz {v : Value} {t te : TypeId} {z : Nat} {lo hi mx : Option Value} {l r : Nat} (hv : a6W v) (hu : P.underlying t = some (.slice te)) (hs : szT P te = some z) (hb : qE 0 0 lo hi mx = some (l, r, some r)) : ∃ u, z9 P (qV P h) t v lo hi mx = some u ∧ a6W u := by
 obtain ⟨u, h1, h2⟩ : ∃ u, z9 P (qV P h) t v lo hi mx = some u ∧ ((l = r ∧ a6W u) ∨ (l < r ∧ CxV P (fun _ => False) h z (([] : List (List PV)).drop l |>.take (r - l)) u)) := by
  rcases hv with rfl | ⟨b, o, rfl⟩
  ·exact YI (z := z) (rows := []) .nil hu hs hb
  ·exact YI (z := z) (rows := []) .zero hu hs hb
 refine ⟨u, h1, ?_⟩
 rcases h2 with ⟨_, h2⟩ | ⟨_, h2, _⟩
 ·exact h2
 ·exact absurd (by simp) h2
end
section
variable {P : Program} {γ : Pl} {L : List Obj} {h : Heap} {h0 : Heap} {W0 : Ent}
theorem YS (H : Hp P h0 W0 γ L h) {v : Value} (hv : a6W v) : Hp P h0 W0 γ (L ++ [.li none []]) h ∧ Carry W0 γ L h γ (L ++ [.li none []]) h ∧ DR P (qd W0 γ (L ++ [.li none []]) h) γ (L ++ [.li none []]) h (.ref L.length 0 0 0) v := by
 have hno : γ L.length = none := by
  cases hq : γ L.length with
  | none => rfl
  | some x => have := H.dom _ _ hq; omega
 have h1 : v.oneCell' = true := by rcases hv with rfl | ⟨_, _, rfl⟩ <;> rfl
 refine ⟨H.virtual rfl ⟨rfl, hno⟩, QJ _ rfl, by simp, h1, fun o rs e1 e2 => ?_⟩
 simp at e1
 subst e1
 cases e2
 exact ⟨Nat.le_refl _, fun _ => ⟨by omega, fun z _ => .inl ⟨hv, rfl, hno⟩⟩⟩
theorem aaN (H : Hp P h0 W0 γ L h) {t t2 te : TypeId} {i : TypeInfo} {zc : List Value} {rows ys : List (List PV)} {x : DV} {v w : Value} (hu : P.underlying t = some (.slice te)) (hi : P.info? te = some i) (hz : qT P te = some zc)
  (hv : CxV P (qd W0 γ L h) h i.size rows v) (hx : DR P (qd W0 γ L h) γ L h x w) (hy : a0Q P L i.size t2 x = some ys) (h0z : 0 < i.size) (c1 : rows.length + ys.length ≤ maxLen) (c2 : (rows.length + ys.length) * i.bytes ≤ 140737488355328) :
  (ys = [] ∧ kD P [t, t2] h v w = some (v, h)) ∨ (0 < ys.length ∧ ∃ cs, kD P [t, t2] h v w = some (qu (rows.length + ys.length) unk h.next, h.push (.cells cs te true)) ∧
   ∃ γ', Hp P h0 W0 γ' (L ++ [.li (some te) (rows ++ ys)]) (h.push (.cells cs te true)) ∧ Carry W0 γ L h γ' (L ++ [.li (some te) (rows ++ ys)]) (h.push (.cells cs te true)) ∧
   DR P (qd W0 γ' (L ++ [.li (some te) (rows ++ ys)]) (h.push (.cells cs te true))) γ' (L ++ [.li (some te) (rows ++ ys)]) (h.push (.cells cs te true)) (.ref L.length 0 (rows.length + ys.length) (rows.length + ys.length)) (qu (rows.length + ys.length) unk h.next)) := by
 obtain ⟨cs, hsrc, hf⟩ := wT H hx hy
 have hsz : szT P te = some i.size := by unfold szT; rw [hi]; rfl
 obtain ⟨hne, hcx⟩ := hv
 have hun : unk > maxLen := by decide
 have hno : qG > maxLen := by decide
 have hdu : dud > maxLen := by decide
 have hpos : 0 < rows.length := List.length_pos_iff.2 hne
 by_cases h0y : ys.length = 0
 ·left
  have hys : ys = [] := List.length_eq_zero_iff.1 h0y
  refine ⟨hys, ?_⟩
  subst hys
  unfold kD
  simp only [hu, hi, hz, hsrc]
  rcases hcx with ⟨u, rfl, h1, hp⟩ | ⟨b, o, rfl, hp⟩
  ·unfold xX
   cases hp with
   | nil => exact absurd rfl hne
   | dud => exact absurd rfl hne
   | zero => exact absurd rfl hne
   | sl => simp [ZM]
  ·simp
 ·right
  refine ⟨by omega, ?_⟩
  have old : ∀ {u : Value}, PR P (qd W0 γ L h) h (.sl i.size rows) u → ∃ b o c cs0 e' rw, u = .slice (some ⟨b, o, none⟩) rows.length c ∧ h.get b = some (.cells cs0 e' rw) ∧ o + rows.length * i.size ≤ cs0.length ∧ FlatR P (qd W0 γ L h) h i.size rows ((cs0.drop o).take (rows.length * i.size)) ∧ CapOk P c rows.length rw e' i.size := by
   intro u hp
   cases hp with
   | nil => exact absurd rfl hne
   | dud => exact absurd rfl hne
   | zero => exact absurd rfl hne
   | sl hS hg h0' hl hw hrr hc hm =>
    rename_i b o c cs0 e' rw'
    have hfl := Je (P := P) (h := h) (S := qd W0 γ L h) (cs := cs0) (o := o) (z := i.size) (rows := rows) (lo := 0) (n := rows.length) hl (fun r hr => by obtain ⟨k, hk⟩ := List.mem_iff_getElem?.1 hr; exact hw k r hk) (by omega) hrr
    simp only [List.drop_zero, List.take_length, Nat.zero_mul, Nat.add_zero] at hfl
    exact ⟨b, o, c, cs0, e', rw', rfl, hg, hl, hfl, hc⟩
  have fin : ∀ {cs1 : List Value}, FlatR P (qd W0 γ L h) h i.size rows cs1 → ∃ γ', Hp P h0 W0 γ' (L ++ [.li (some te) (rows ++ ys)]) (h.push (.cells (cs1 ++ cs) te true)) ∧ Carry W0 γ L h γ' (L ++ [.li (some te) (rows ++ ys)]) (h.push (.cells (cs1 ++ cs) te true)) ∧
   DR P (qd W0 γ' (L ++ [.li (some te) (rows ++ ys)]) (h.push (.cells (cs1 ++ cs) te true))) γ' (L ++ [.li (some te) (rows ++ ys)]) (h.push (.cells (cs1 ++ cs) te true)) (.ref L.length 0 (rows.length + ys.length) (rows.length + ys.length)) (qu (rows.length + ys.length) unk h.next) := by
   intro cs1 hf1
   have hff := hf1.append hf
   have hl2 : (rows ++ ys).length = rows.length + ys.length := List.length_append
   obtain ⟨γ', a1, a2, a3⟩ := XL H (te := te) (c := unk) hsz h0z (rows := rows ++ ys) (by rw [hff.len]; exact Nat.le_refl _) (by rw [hl2]; exact c1) hff.wide hff.get (.inl rfl)
   rw [hl2] at a3
   exact ⟨γ', a1, a2, a3⟩
  unfold kD
  simp only [hu, hi, hz, hsrc]
  rcases hcx with ⟨u, rfl, h1, hp⟩ | ⟨b, o, rfl, hp⟩
  ·obtain ⟨b, o, c, cs0, e', rw', rfl, hg, hl, hfl, hc⟩ := old hp
   refine ⟨(cs0.drop o).take (rows.length * i.size) ++ cs, ?_, fin hfl⟩
   unfold xX
   simp only [ZM, List.size_toArray, List.length_cons, List.length_nil, Nat.reduceAdd, if_true, List.getElem?_toArray, List.getElem?_cons_zero]
   rw [if_neg h0y, if_pos ⟨c1, c2⟩]
   simp only [hg]
   rw [if_pos ⟨hl, hpos⟩]
  ·obtain ⟨b', o', c, cs0, e', rw', heq, hg, hl, hfl, hc⟩ := old hp
   cases heq
   refine ⟨(cs0.drop o).take (rows.length * i.size) ++ cs, ?_, fin hfl⟩
   have hlm : rows.length ≤ maxLen := by omega
   rcases hc with hc | ⟨r1, r2, r3⟩
   ·omega
   simp only
   rw [if_neg h0y, if_neg (by omega), if_pos ⟨c1, c2⟩, if_neg (by omega)]
   simp only [hg]
   rw [if_pos ⟨hl, .inl ⟨by omega, by omega⟩⟩, if_pos ⟨by omega, by omega⟩]
end
open Go.RowKit
section
variable {R : Type}
def a22 (P : Program) (ty : TypeId → Option CT) (L : List TO) (t : TypeId) (x : TV) (lo : Option Int) (hi mx : Int) (K : TV → List TO → Tree R) : Tree R :=
 match P.underlying t with
 | some (.slice e) => match x with
  | .sl c xs => if szT P e = some c.size then tif (0 ≤ lo.getD 0 ∧ lo.getD 0 ≤ hi ∧ hi = mx ∧ mx.toNat ≤ xs.length) (.cond (decide (lo.getD 0 = hi)) (K (.ref L.length 0) (L ++ [.li c e false []])) (K (.slx c ((xs.drop (lo.getD 0).toNat).take (hi.toNat - (lo.getD 0).toNat))) L)) else .fail
  | .v (.slice none 0 0) => ql (ty e) fun c => if szT P e = some c.size then tif (lo.getD 0 = 0 ∧ hi = 0 ∧ mx = 0) (K (.ref L.length 0) (L ++ [.li c e false []])) else .fail
  | .ref id tot => match L[id]? with
   | some (.li c e' loc xs) => if szT P e = some c.size ∧ e' = e then tif (xs.length = tot ∧ 0 ≤ lo.getD 0 ∧ lo.getD 0 ≤ hi ∧ hi = mx ∧ mx.toNat ≤ xs.length) (.cond (decide (lo.getD 0 = hi)) (K (.ref L.length 0) (L ++ [.li c e false []])) (.cond (decide (lo.getD 0 = 0 ∧ hi = tot)) (K (.ref id tot) L) (K (.slx c ((xs.drop (lo.getD 0).toNat).take (hi.toNat - (lo.getD 0).toNat))) (L.set id (.fz c e' loc xs))))) else .fail
   | some (.fz c e' loc xs) => if szT P e = some c.size ∧ e' = e then tif (xs.length = tot ∧ 0 ≤ lo.getD 0 ∧ lo.getD 0 ≤ hi ∧ hi = mx ∧ mx.toNat ≤ xs.length) (.cond (decide (lo.getD 0 = hi)) (K (.ref L.length 0) (L ++ [.li c e false []])) (K (.slx c ((xs.drop (lo.getD 0).toNat).take (hi.toNat - (lo.getD 0).toNat))) L)) else .fail
   | _ => .fail
  | _ => .fail
 | _ => .fail
variable {P : Program} {γ : Pl} {L : List TO} {h : Heap} {h0 : Heap} {W0 : Ent} {z : R} {K : TV → List TO → Tree R}
theorem QR {n : Int} {v : Option Value} (h : BdV (some n) v) : ∃ k, v = some (.int k n) := by
 unfold BdV at h
 cases v with
 | none => cases h
 | some x =>
  cases x <;> first | (exact ⟨_, by rw [show _ = n from h]⟩) | (cases h)
theorem Ju {k : IntKind} {n : Int} (h : 0 ≤ n) : kR (.int k n) = some n.toNat := by
 show (if 0 ≤ n then some n.toNat else none) = _
 rw [if_pos h]
theorem VP {lo : Option Int} {hi mx : Int} {n : Nat} {vl vh vm : Option Value} (b1 : BdV lo vl) (b2 : BdV (some hi) vh) (b3 : BdV (some mx) vm) (c1 : 0 ≤ lo.getD 0) (c2 : lo.getD 0 ≤ hi) (c3 : hi = mx) (c4 : mx.toNat ≤ n) :
  qE n n vl vh vm = some ((lo.getD 0).toNat, hi.toNat, some hi.toNat) := by
 subst c3
 obtain ⟨k2, rfl⟩ := QR b2
 obtain ⟨k3, rfl⟩ := QR b3
 unfold qE
 simp only [Ju (show 0 ≤ hi by omega)]
 rw [if_pos ⟨c4, Nat.le_refl _⟩]
 cases lo with
 | none =>
  cases vl with
  | none => rfl
  | some _ => cases b1
 | some l =>
  obtain ⟨k1, rfl⟩ := QR b1
  simp only [Option.getD_some] at c1 c2 ⊢
  simp only [Ju c1]
  rw [if_pos (by omega)]
theorem agJ (c : CT) (xs : List c.T) : enc (.slx c xs) = .cx c.size (xs.map (qM c)) := rfl
theorem Up {ty : TypeId → Option CT} {t : TypeId} {x : TV} {lo : Option Int} {hi mx : Int} {vl vh vm : Option Value} {v : Value} (H : Hp P h0 W0 γ (eL L) h) (hx : DR P (qd W0 γ (eL L) h) γ (eL L) h (enc x) v) (b1 : BdV lo vl) (b2 : BdV (some hi) vh) (b3 : BdV (some mx) vm)
  (e : (a22 P ty L t x lo hi mx K).run = some z) : ∃ u, z9 P (qV P h) t v vl vh vm = some u ∧ Zg P h0 W0 γ L h K z u h := by
 unfold a22 at e
 split at e
 case h_2 => cases e
 rename_i te hu
 have empty : ∀ {c : CT} {u : Value}, a6W u → (K (.ref L.length 0) (L ++ [.li c te false []])).run = some z → Zg P h0 W0 γ L h K z u h := by
  intro c u hn hk
  obtain ⟨a1, a2, a3⟩ := YS H hn
  rw [show ([Obj.li none []] : List Obj) = [kh (TO.li c te false [])] from rfl, ← j9] at a1 a2
  refine ⟨γ, _, _, hk, a1, a2, ?_⟩
  have : enc (.ref L.length 0) = .ref (eL L).length 0 0 0 := by rw [zH]; rfl
  rw [this, j9]
  exact a3
 have main : ∀ {c : CT} {xs : List c.T} {v : Value} {L' : List TO}, Hp P h0 W0 γ (eL L') h → Carry W0 γ (eL L) h γ (eL L') h → PR P (qd W0 γ (eL L') h) h (.sl c.size (xs.map (qM c))) v → szT P te = some c.size →
   0 ≤ lo.getD 0 → lo.getD 0 ≤ hi → hi = mx → mx.toNat ≤ xs.length → (Tree.cond (decide (lo.getD 0 = hi)) (K (.ref L.length 0) (L ++ [.li c te false []])) (K (.slx c ((xs.drop (lo.getD 0).toNat).take (hi.toNat - (lo.getD 0).toNat))) L')).run = some z →
   ∃ u, z9 P (qV P h) t v vl vh vm = some u ∧ Zg P h0 W0 γ L h K z u h := by
  intro c xs v L' H' cc hp hs c1 c2 c3 c4 hk
  have hb := VP (n := (xs.map (qM c)).length) b1 b2 b3 c1 c2 c3 (by simpa using c4)
  obtain ⟨u, s1, s2⟩ := YI hp hu hs hb
  refine ⟨u, s1, ?_⟩
  rcases s2 with ⟨q1, q2⟩ | ⟨q1, q2⟩
  ·rw [decide_eq_true (show lo.getD 0 = hi by omega)] at hk
   exact empty q2 hk
  ·rw [decide_eq_false (show ¬ lo.getD 0 = hi by omega)] at hk
   refine ⟨γ, _, _, hk, H', cc, ?_⟩
   rw [agJ, List.map_take, List.map_drop]
   exact q2
 split at e
 ·rename_i c xs
  split at e
  ·rename_i hs
   rw [qa] at e
   split at e
   ·rename_i hc
    exact main H (Carry.refl _ _ _) hx hs hc.1 hc.2.1 hc.2.2.1 hc.2.2.2 e
   ·cases e
  ·cases e
 ·replace e := q9 e; obtain ⟨c, hc, e⟩ := e
  split at e
  ·rename_i hs
   rw [qa] at e
   split at e
   ·rename_i hq
    obtain ⟨q1, rfl, rfl⟩ := hq
    have : v = .slice none 0 0 := PR.scal (P := P) (S := qd W0 γ (eL L) h) (h := h) hx
    subst this
    have hb := VP (n := 0) b1 b2 b3 (by omega) (by omega) rfl (by simp)
    rw [show (lo.getD 0).toNat = 0 by omega] at hb
    obtain ⟨u, s1, s2⟩ := Xz (P := P) (h := h) (.inl rfl) hu hs hb
    exact ⟨u, s1, empty s2 e⟩
   ·cases e
  ·cases e
 ·rename_i id tot
  have hnone : ∀ {c : CT} {loc : Bool} {xs : List c.T} {q : TO}, L[id]? = some q → (q = .li c te loc xs ∨ q = .fz c te loc xs) → xs.length = tot → szT P te = some c.size → lo.getD 0 = hi → 0 ≤ lo.getD 0 → hi = mx → mx.toNat ≤ xs.length → (K (.ref L.length 0) (L ++ [.li c te false []])).run = some z →
    ∃ u, z9 P (qV P h) t v vl vh vm = some u ∧ Zg P h0 W0 γ L h K z u h := by
   intro c loc xs q hq hqq ht hs q1 q2 q3 q4 hk
   have hdu : dud > maxLen := by decide
   have hun : unk > maxLen := by decide
   have hno : qG > maxLen := by decide
   have hil : (kh q).isList (xs.map (qM c)) := by rcases hqq with rfl | rfl <;> exact rfl
   obtain ⟨k1, k2, k3⟩ := (show DB P (qd W0 γ (eL L) h) γ (eL L) h (.ref id 0 tot tot) v from hx)
   obtain ⟨m1, m2⟩ := k3 _ _ (z7 hq) hil
   obtain ⟨m3, m4⟩ := m2 (by simpa using ht)
   have hb := VP (n := tot) b1 b2 b3 q2 (by omega) q3 (by omega)
   have hb0 : (lo.getD 0).toNat = hi.toNat := by omega
   rcases m4 c.size (fun r hr => by obtain ⟨w, _, rfl⟩ := List.mem_map.1 hr; exact k9 c w) with ⟨hv, t0, _⟩ | ⟨_, _, _, hv, n0, t0⟩ | ⟨b, o, cp, g, hv, d1, d2, d3⟩
   ·subst t0
    obtain ⟨u, s1, s2⟩ := Xz (P := P) (h := h) hv hu hs hb
    exact ⟨u, s1, empty s2 hk⟩
   ·omega
   ·subst hv
    have hO := H.obj id _ (z7 hq)
    have hrows : ∃ cs, h.get b = some (.cells cs te true) := by
     rcases hqq with rfl | rfl
     ·have hO' : OR P (qd W0 γ (eL L) h) γ (eL L) h id (.li (eo loc te xs.length) (xs.map (qM c))) := hO
      cases he : eo loc te xs.length with
      | none => rw [he] at hO'; rw [hO'.2] at g; cases g
      | some te' =>
       rw [he] at hO'
       obtain ⟨b', o', g', cs, zz, r1, _⟩ := hO'
       rw [g] at g'; cases g'
       have : te' = te := by
        unfold eo at he
        split at he
        ·cases he; rfl
        ·split at he
         ·cases he
         ·cases he; rfl
       subst this
       exact ⟨cs, r1⟩
     ·have hO' : OR P (qd W0 γ (eL L) h) γ (eL L) h id (.fz (eo loc te xs.length) (xs.map (qM c))) := hO
      cases he : eo loc te xs.length with
      | none => rw [he] at hO'; rw [hO'.2] at g; cases g
      | some te' =>
       rw [he] at hO'
       obtain ⟨b', o', g', _, cs, zz, r1, _⟩ := hO'
       rw [g] at g'; cases g'
       have : te' = te := by
        unfold eo at he
        split at he
        ·cases he; rfl
        ·split at he
         ·cases he
         ·cases he; rfl
       subst this
       exact ⟨cs, r1⟩
    obtain ⟨cs, r1⟩ := hrows
    have hcap : tot ≤ qP tot cp := by
     unfold qP
     rcases d3 with rfl | ⟨h1, h2⟩
     ·rw [if_pos rfl]; exact Nat.le_refl _
     ·rw [if_neg (by omega), if_neg (by omega), if_neg (by omega)]; exact h1
    obtain ⟨hbd, _, _, _⟩ := yP hcap hb
    unfold z9
    simp only [hu, hs, hbd]
    rw [if_neg d1, if_neg (by rintro ⟨_, _, q⟩; exact q (by unfold qV; rw [r1]; exact hs)), if_pos hb0.symm]
    exact ⟨_, rfl, empty (.inr ⟨_, _, by rw [hb0, Nat.sub_self]⟩) hk⟩
  split at e
  ·rename_i c e' loc xs hL
   split at e
   ·rename_i hc
    obtain ⟨hs, rfl⟩ := hc
    rw [qa] at e
    split at e
    ·rename_i hq
     obtain ⟨q0, q1, q2, q3, q4⟩ := hq
     by_cases hlh : lo.getD 0 = hi
     ·rw [decide_eq_true hlh] at e
      exact hnone hL (.inl rfl) q0 hs hlh q1 q3 q4 e
     ·have hi' : (eL L)[id]? = some (.li (eo loc e' xs.length) (xs.map (qM c))) := z7 hL
      obtain ⟨H', cc⟩ := YJ H hi'
      rw [show (eL L).set id (.fz (eo loc e' xs.length) (xs.map (qM c))) = eL (L.set id (.fz c e' loc xs)) from (yR L id (.fz c e' loc xs)).symm] at H' cc
      have hlt : id < L.length := (List.getElem?_eq_some_iff.1 hL).1
      have hp : PR P (qd W0 γ (eL (L.set id (.fz c e' loc xs))) h) h (.sl c.size (xs.map (qM c))) v :=
       a0H H' (e := eo loc e' xs.length) (rows := xs.map (qM c)) (tot := tot) (z7 (by rw [List.getElem?_set_self hlt])) (by simpa using q0) (xI hs) (cc.dc (d := .ref id 0 tot tot) hx)
      rw [decide_eq_false hlh] at e
      replace e : (Tree.cond (decide (lo.getD 0 = 0 ∧ hi = (tot : Int))) (K (.ref id tot) L) (K (.slx c ((xs.drop (lo.getD 0).toNat).take (hi.toNat - (lo.getD 0).toNat))) (L.set id (.fz c e' loc xs)))).run = some z := e
      by_cases h0t : lo.getD 0 = 0 ∧ hi = (tot : Int)
      ·rw [decide_eq_true h0t] at e
       obtain ⟨t1, t2⟩ := h0t
       have hb := VP (n := tot) b1 b2 b3 q1 q2 q3 (by omega)
       have hpos : 0 < tot := by omega
       have hro : zG (eL L) id tot = some (xs.map (qM c)) := by
        unfold zG
        rw [hi']
        simp only
        rw [if_pos (by simpa using q0)]
       have hlt' : ((eL L)[id]?.bind wj).bind (szT P) = some c.size := by
        rw [hi']
        show (eo loc e' xs.length).bind (szT P) = _
        have : eo loc e' xs.length = some e' := by
         unfold eo
         cases loc
         ·rw [if_neg (by decide), if_neg (by omega)]
         ·rfl
        rw [this]
        exact hs
       have hd : jN P (eL L) t (.ref id 0 tot tot) vl vh vm = some (.ref id 0 tot tot) := by
        unfold jN
        simp only [hu, hs, hro, hb, hlt']
        rw [if_pos ⟨trivial, hpos⟩]
        have e1 : (lo.getD 0).toNat = 0 := by omega
        have e2 : hi.toNat = tot := by omega
        rw [e1, e2]
        rfl
       obtain ⟨u, u1, u2⟩ := yz H (x := .ref id 0 tot tot) hx hd
       exact ⟨u, u1, γ, _, _, e, H, Carry.refl _ _ _, u2⟩
      ·rw [decide_eq_false h0t] at e
       refine main H' cc hp hs q1 q2 q3 q4 ?_
       rw [decide_eq_false hlh]
       exact e
    ·cases e
   ·cases e
  ·rename_i c e' loc xs hL
   split at e
   ·rename_i hc
    obtain ⟨hs, rfl⟩ := hc
    rw [qa] at e
    split at e
    ·rename_i hq
     obtain ⟨q0, q1, q2, q3, q4⟩ := hq
     by_cases hlh : lo.getD 0 = hi
     ·rw [decide_eq_true hlh] at e
      exact hnone hL (.inr rfl) q0 hs hlh q1 q3 q4 e
     ·have hp : PR P (qd W0 γ (eL L) h) h (.sl c.size (xs.map (qM c))) v :=
       a0H H (e := eo loc e' xs.length) (rows := xs.map (qM c)) (tot := tot) (z7 hL) (by simpa using q0) (xI hs) hx
      exact main H (Carry.refl _ _ _) hp hs q1 q2 q3 q4 e
    ·cases e
   ·cases e
  ·cases e
 ·cases e
end
open Go.RowKit
section
variable {R : Type}
def ads (P : Program) (ts : List TypeId) (L : List TO) (c : CT) (xs : List c.T) (x : TV) (K : TV → List TO → Tree R) : Tree R :=
 match ts with
 | [t, t2] => match P.underlying t with
  | some (.slice e) => ql (P.info? e) fun i => ql (qT P e) fun _ => if c.size = i.size ∧ 0 < i.bytes then
    a3X P L c t2 x fun ys => tif (xs.length + ys.length ≤ lim i.bytes) (.cond (decide (ys.length = 0)) (K (.slx c xs) L) (K (.ref L.length (xs.length + ys.length)) (L ++ [.li c e false (xs ++ ys)])))
   else .fail
  | _ => .fail
 | _ => .fail
def adV (P : Program) (ty : TypeId → Option CT) (L : List TO) (t : TypeId) (a b : Int) (K : TV → List TO → Tree R) : Tree R :=
 match P.underlying t with
 | some (.slice e) => ql (ty e) fun c => ql ((vU P e).bind (a3F c)) fun zz => ql (P.info? e) fun i => if c.size = i.size ∧ 0 < i.bytes then
   tif (0 ≤ a ∧ a = b ∧ a.toNat ≤ lim i.bytes) (K (.ref L.length a.toNat) (L ++ [.li c e true (List.replicate a.toNat zz)])) else .fail
 | _ => .fail
def afb (c : CT) : Nat → Nat → List c.T → List TV → (List TV → Tree R) → Tree R
 | 0, _, _, cells, K => K cells
 | n + 1, off, ys, cells, K => KD ys[0]? fun y => afb c n (off + 1) (ys.drop 1) (kY cells off (tvC c y)) K
def adt (P : Program) (ty : TypeId → Option CT) (L : List TO) (ts : List TypeId) (d x : TV) (K : TV → List TO → Tree R) : Tree R :=
 match ts with
 | [t, t2] => match P.underlying t with
  | some (.slice e) => match d with
   | .v (.slice none 0 0) => ql (ty e) fun c => if szT P e = some c.size then a3X P L c t2 x fun ys => tif (ys.length = 0) (K (.v (goInt (0 : Nat))) L) else .fail
   | .ref id tot => match L[id]? with
    | some (.li c e' loc xs) => if szT P e = some c.size ∧ e' = e then a3X P L c t2 x fun ys => tif (xs.length = tot ∧ ys.length ≤ tot) (K (.v (goInt ys.length)) (L.set id (.li c e loc (ys ++ xs.drop ys.length)))) else .fail
    | _ => .fail
   | .aref id off n => match L[id]? with
    | some (.st cells) => ql (ty e) fun c => if szT P e = some c.size ∧ c.size = 1 ∧ off + n ≤ cells.length then a3X P L c t2 x fun ys =>
      J0 (ys.length : Int) (n + 1) fun k => afb c k off ys cells fun cells' => K (.v (goInt k)) (L.set id (.st cells')) else .fail
    | _ => .fail
   | _ => .fail
  | _ => .fail
 | _ => .fail
variable {P : Program} {γ : Pl} {L : List TO} {h : Heap} {h0 : Heap} {W0 : Ent} {z : R} {K : TV → List TO → Tree R}
theorem VN (id tot : Nat) : enc (.ref id tot) = .ref id 0 tot tot := rfl
theorem vE {ts : List TypeId} {c : CT} {xs : List c.T} {x : TV} {v w : Value} (H : Hp P h0 W0 γ (eL L) h) (hv : DR P (qd W0 γ (eL L) h) γ (eL L) h (enc (.slx c xs)) v) (hx : DR P (qd W0 γ (eL L) h) γ (eL L) h (enc x) w)
  (e : (ads P ts L c xs x K).run = some z) : ∃ u h', kD P ts h v w = some (u, h') ∧ Zg P h0 W0 γ L h K z u h' ∧ ∀ b, b < h.next → h'.get b = h.get b := by
 unfold ads at e
 split at e
 case h_2 => cases e
 rename_i t t2
 split at e
 case h_2 => cases e
 rename_i te hu
 replace e := q9 e; obtain ⟨i, hi, e⟩ := e
 replace e := q9 e; obtain ⟨zc, hz, e⟩ := e
 split at e
 case isFalse => cases e
 rename_i hsz
 replace e := yX e; obtain ⟨ys, hy, e⟩ := e
 rw [qa] at e
 split at e
 case isFalse => cases e
 rename_i hl
 obtain ⟨l1, l2⟩ := a1y hl hsz.2
 have h0z : 0 < i.size := by rw [← hsz.1]; exact CT.size_pos c
 rw [hsz.1] at hy
 have hcx : CxV P (qd W0 γ (eL L) h) h i.size (xs.map (qM c)) v := by rw [← hsz.1]; exact hv
 rcases aaN H hu hi hz hcx hx hy h0z (by simpa using l1) (by simpa using l2) with ⟨hys, ha⟩ | ⟨hpos, cs, ha, γ', a1, a2, a3⟩
 ·have : ys.length = 0 := by have := congrArg List.length hys; simpa using this
  rw [decide_eq_true this] at e
  exact ⟨v, h, ha, ⟨γ, _, _, e, H, Carry.refl _ _ _, hv⟩, fun _ _ => rfl⟩
 ·rw [decide_eq_false (by simp at hpos; omega)] at e
  refine ⟨_, _, ha, ⟨γ', _, _, e, ?_, ?_, ?_⟩, fun b hb => Heap.get_push_ne _ _ (by omega)⟩
  all_goals
   have hO : kh (.li c te false (xs ++ ys)) = .li (some te) (xs.map (qM c) ++ ys.map (qM c)) := by
    show Obj.li (eo false te (xs ++ ys).length) _ = _
    have : eo false te (xs ++ ys).length = some te := by
     unfold eo
     rw [if_neg (by decide), if_neg (by rw [List.length_append]; rw [List.length_map] at hpos; omega)]
    rw [this, List.map_append]
  ·rw [j9, hO]; exact a1
  ·rw [j9, hO]; exact a2
  ·rw [j9, hO, VN, ← zH L]
   simpa using a3
theorem a3q {ty : TypeId → Option CT} {t : TypeId} {a b : Int} {ka kb : IntKind} (H : Hp P h0 W0 γ (eL L) h) (e : (adV P ty L t a b K).run = some z) :
  ∃ q mk, Q8 P t (.int ka a) (.int kb b) = some (q, mk) ∧ Zg P h0 W0 γ L h K z (mk h.next) (h.push q) := by
 unfold adV at e
 split at e
 case h_2 => cases e
 rename_i te hu
 replace e := q9 e; obtain ⟨c, hc, e⟩ := e
 replace e := q9 e; obtain ⟨z0, hz0, e⟩ := e
 replace e := q9 e; obtain ⟨i, hi, e⟩ := e
 split at e
 case isFalse => cases e
 rename_i hsz
 rw [qa] at e
 split at e
 case isFalse => cases e
 rename_i hq
 obtain ⟨q1, rfl, q3⟩ := hq
 obtain ⟨l1, l2⟩ := a1y q3 hsz.2
 have h0z : 0 < i.size := by rw [← hsz.1]; exact CT.size_pos c
 cases hzt : vU P te with
 | none => rw [hzt] at hz0; cases hz0
 | some zc =>
  rw [hzt] at hz0
  obtain ⟨zr, p1, p2⟩ := Ye (show a3F c zc = some z0 from hz0)
  have hzd : JK P te = some (zc.map qr) := by rw [Y1, hzt]; rfl
  obtain ⟨zs, z1, z2⟩ := Ql (P := P) (S := qd W0 γ (eL L) h) (γ := γ) (L := eL L) (h := h) hzd
  have hpv : All2 (PR P (qd W0 γ (eL L) h) h) zr zs := yF z2 (VL p1)
  have hzl : zs.length = i.size := by rw [← hpv.length, ← p2.length, k9, hsz.1]
  have hszT : szT P te = some i.size := by unfold szT; rw [hi]; rfl
  have hf := xl hpv a.toNat
  rw [hzl] at hf
  have hlen : (List.replicate a.toNat zr).length = a.toNat := List.length_replicate
  obtain ⟨γ', a1, a2, a3⟩ := XL H (te := te) (c := a.toNat) hszT h0z (rows := List.replicate a.toNat zr) (cs := jJ zs a.toNat) (by rw [hf.len]; exact Nat.le_refl _) (by rw [hlen]; exact l1) hf.wide hf.get (.inr ⟨by rw [hlen]; exact Nat.le_refl _, l1⟩)
  refine ⟨.cells (jJ zs a.toNat) te true, qu a.toNat a.toNat, ?_, ?_⟩
  ·unfold Q8
   simp only [hu, Ju q1, z1, hi]
   rw [if_pos ⟨Nat.le_refl _, by rw [Nat.mul_comm]; omega, l1, h0z⟩]
  ·obtain ⟨b', c3⟩ := a1G a1 (id := (eL L).length) (e := some te) (rows := List.replicate a.toNat zr) (rows' := (List.replicate a.toNat z0).map (qM c)) (by simp) (.inr (by rw [List.map_replicate]; exact XT p2 _))
   have he : (eL L ++ [Obj.li (some te) (List.replicate a.toNat zr)]).set (eL L).length (.li (some te) ((List.replicate a.toNat z0).map (qM c))) = eL (L ++ [.li c te true (List.replicate a.toNat z0)]) := by
    rw [j9, List.set_append_right _ _ (Nat.le_refl _)]
    simp [kh, eo]
   rw [he] at b' c3
   refine ⟨γ', _, _, e, b', a2.trans' c3, ?_⟩
   have := c3.dr a3
   rw [hlen] at this
   rw [VN, ← zH L]
   exact this
end
open Go.RowKit
section
variable {R : Type} {P : Program} {γ : Pl} {L : List TO} {h : Heap} {h0 : Heap} {W0 : Ent} {z : R} {K : TV → List TO → Tree R}
theorem afH {Lo : List Obj} (H : Hp P h0 W0 γ Lo h) {id tot s : Nat} {t t2 te : TypeId} {eo' : Option TypeId} {rows ys : List (List PV)} {x : DV} {v w : Value} (hu : P.underlying t = some (.slice te)) (hs : szT P te = some s)
  (hi : Lo[id]? = some (.li eo' rows)) (heo : ∀ te', eo' = some te' → te' = te) (ht : rows.length = tot) (hd : DR P (qd W0 γ Lo h) γ Lo h (.ref id 0 tot tot) v) (hx : DR P (qd W0 γ Lo h) γ Lo h x w) (hy : a0Q P Lo s t2 x = some ys) (hle : ys.length ≤ tot) :
  ∃ h', JW P [t, t2] h v w = some (goInt ys.length, h') ∧ Hp P h0 W0 γ (Lo.set id (.li eo' (ys ++ rows.drop ys.length))) h' ∧ Carry W0 γ Lo h γ (Lo.set id (.li eo' (ys ++ rows.drop ys.length))) h' := by
 obtain ⟨cs, hsrc, hf⟩ := wT H hx hy
 have hlt : id < Lo.length := (List.getElem?_eq_some_iff.1 hi).1
 have same : Lo.set id (.li eo' rows) = Lo := by
  refine List.ext_getElem? fun j => ?_
  by_cases hj : j = id
  ·subst hj; rw [List.getElem?_set_self hlt, hi]
  ·rw [List.getElem?_set_ne (Ne.symm hj)]
 unfold JW
 simp only [hu, hs, hsrc]
 by_cases h0y : ys.length = 0
 ·have hys : ys = [] := List.length_eq_zero_iff.1 h0y
  subst hys
  have hl : Lo.set id (.li eo' ([] ++ rows.drop ([] : List (List PV)).length)) = Lo := by simpa using same
  rw [hl]
  refine ⟨h, ?_, H, Carry.refl _ _ _⟩
  obtain ⟨k1, k2, k3⟩ := (show DB P (qd W0 γ Lo h) γ Lo h (.ref id 0 tot tot) v from hd)
  obtain ⟨_, m2⟩ := k3 _ rows hi rfl
  obtain ⟨_, m4⟩ := m2 ht
  obtain ⟨z0, hz0⟩ := H.width hi rfl
  rcases m4 z0 hz0 with ⟨rfl | ⟨b, o, rfl⟩, _⟩ | ⟨b, o, c, rfl, _⟩ | ⟨b, o, c, _, rfl, _⟩ <;> simp
 ·obtain ⟨k1, k2, k3⟩ := (show DB P (qd W0 γ Lo h) γ Lo h (.ref id 0 tot tot) v from hd)
  obtain ⟨_, m2⟩ := k3 _ rows hi rfl
  obtain ⟨_, m4⟩ := m2 ht
  have ho := H.obj id _ hi
  cases eo' with
  | none =>
   obtain ⟨rfl, _⟩ := ho
   simp at ht; omega
  | some te' =>
   have := heo te' rfl
   subst this
   obtain ⟨b, o, g1, cs0, zz, r1, r2, r3, r4, r5, r6, r7⟩ := ho
   have hzs : zz = s := by rw [hs] at r2; cases r2; rfl
   subst hzs
   rcases m4 _ r6 with ⟨_, h1, _⟩ | ⟨_, _, _, _, h1, h2⟩ | ⟨b', o', c, g, rfl, d1, d2, d3⟩
   ·omega
   ·omega
   ·rw [g1] at g; cases g
    simp only [Nat.zero_mul, Nat.add_zero]
    rw [if_neg h0y, if_pos hle]
    simp only [r1]
    have hmul : ys.length * zz ≤ rows.length * zz := Nat.mul_le_mul_right _ (by omega)
    have hfl : cs.length = ys.length * zz := hf.len
    rw [if_pos (by omega)]
    have hlen : (ys ++ rows.drop ys.length).length = rows.length := by simp; omega
    have hw' : ∀ r ∈ ys ++ rows.drop ys.length, r.length = zz := by
     intro r hr
     rcases List.mem_append.1 hr with hr | hr
     ·exact hf.wide r hr
     ·exact r6 r (List.mem_of_mem_drop hr)
    obtain ⟨a1, a2⟩ := a4u H (rows' := ys ++ rows.drop ys.length) (cs' := qL cs0 o cs) hi g1 r1 hlen r6 hw' r2 r3 (by rw [Kq]; exact r4) r5 (fun i r j x' u e1 e2 e3 => by
     have hj : j < zz := by
      have := hw' r (List.mem_of_getElem? e1)
      rw [← this]; exact (List.getElem?_eq_some_iff.1 e2).1
     rw [Qw _ _ _ _ (by omega)] at e3
     by_cases hiy : i < ys.length
     ·rw [List.getElem?_append_left hiy] at e1
      have hlt2 : i * zz + j < ys.length * zz := by
       have : (i + 1) * zz ≤ ys.length * zz := Nat.mul_le_mul_right _ hiy
       rw [Nat.succ_mul] at this; omega
      rw [if_pos (by omega), show o + i * zz + j - o = i * zz + j by omega] at e3
      exact hf.get i r j x' u e1 e2 e3
     ·rw [List.getElem?_append_right (by omega), List.getElem?_drop, show ys.length + (i - ys.length) = i by omega] at e1
      have hge : ys.length * zz ≤ i * zz := Nat.mul_le_mul_right _ (by omega)
      rw [if_neg (by omega)] at e3
      exact r7 i r j x' u e1 e2 e3)
    exact ⟨_, rfl, a1, a2⟩
theorem UG {c : CT} (h1 : c.size = 1) : ∀ {k off : Nat} {ys : List c.T} {cells : List TV} {R : Type} {Kc : List TV → Tree R} {z : R}, (afb c k off ys cells Kc).run = some z → ys.length = k → (Kc (kY cells off (ys.flatMap (tvC c)))).run = some z
 | 0, off, ys, cells, R, Kc, z, e, hl => by
  have : ys = [] := List.length_eq_zero_iff.1 hl
  subst this
  exact e
 | k + 1, off, ys, cells, R, Kc, z, e, hl => by
  cases ys with
  | nil => cases hl
  | cons y ys =>
   unfold afb at e
   obtain ⟨y', hy, e⟩ := kg e
   cases hy
   have := UG h1 e (by simpa using hl)
   obtain ⟨a, ha⟩ : ∃ a, tvC c y = [a] := List.length_eq_one_iff.1 (by rw [a2i, h1])
   simp only [List.drop_succ_cons, List.drop_zero] at this
   rw [List.flatMap_cons, ha, List.singleton_append]
   rw [ha] at this
   exact this
theorem a4h {ty : TypeId → Option CT} {ts : List TypeId} {d x : TV} {v w : Value} (H : Hp P h0 W0 γ (eL L) h) (hd : DR P (qd W0 γ (eL L) h) γ (eL L) h (enc d) v) (hx : DR P (qd W0 γ (eL L) h) γ (eL L) h (enc x) w)
  (e : (adt P ty L ts d x K).run = some z) : ∃ u h', JW P ts h v w = some (u, h') ∧ Zg P h0 W0 γ L h K z u h' := by
 unfold adt at e
 split at e
 case h_2 => cases e
 rename_i t t2
 split at e
 case h_2 => cases e
 rename_i te hu
 split at e
 ·replace e := q9 e; obtain ⟨c, hc, e⟩ := e
  split at e
  case isFalse => cases e
  rename_i hs
  replace e := yX e; obtain ⟨ys, hy, e⟩ := e
  rw [qa] at e
  split at e
  case isFalse => cases e
  rename_i hl
  have hys : ys = [] := List.length_eq_zero_iff.1 hl
  subst hys
  obtain ⟨cs, hsrc, hf⟩ := wT H hx hy
  have : v = .slice none 0 0 := PR.scal (P := P) (S := qd W0 γ (eL L) h) (h := h) hd
  subst this
  refine ⟨goInt (0 : Nat), h, ?_, ⟨γ, _, _, e, H, Carry.refl _ _ _, PR.v rfl⟩⟩
  unfold JW
  simp only [hu, hs, hsrc]
  simp
 ·rename_i id tot
  split at e
  case h_2 => cases e
  rename_i c e' loc xs hL
  split at e
  case isFalse => cases e
  rename_i hc
  obtain ⟨hs, rfl⟩ := hc
  replace e := yX e; obtain ⟨ys, hy, e⟩ := e
  rw [qa] at e
  split at e
  case isFalse => cases e
  rename_i hq
  obtain ⟨q1, q2⟩ := hq
  obtain ⟨h', a1, a2, a3⟩ := afH H (rows := xs.map (qM c)) (ys := ys.map (qM c)) (tot := tot) hu hs (z7 hL) (fun te' he => by
   unfold eo at he
   split at he
   ·cases he; rfl
   ·split at he
    ·cases he
    ·cases he; rfl) (by simpa using q1) hd hx hy (by simpa using q2)
  have hset : (eL L).set id (.li (eo loc e' xs.length) (ys.map (qM c) ++ (xs.map (qM c)).drop (ys.map (qM c)).length)) = eL (L.set id (.li c e' loc (ys ++ xs.drop ys.length))) := by
   rw [yR]
   congr 1
   show Obj.li _ _ = Obj.li _ _
   have : (ys ++ xs.drop ys.length).length = xs.length := by simp; omega
   rw [this, List.map_append, List.map_drop, List.length_map]
  rw [hset] at a2 a3
  rw [List.length_map] at a1
  exact ⟨_, h', a1, γ, _, _, e, a2, a3, PR.v rfl⟩
 ·rename_i id off n
  split at e
  case h_2 => cases e
  rename_i cells hL
  replace e := q9 e; obtain ⟨c, hc, e⟩ := e
  split at e
  case isFalse => cases e
  rename_i hcc
  obtain ⟨hs, h1, hoff⟩ := hcc
  replace e := yX e; obtain ⟨ys, hy, e⟩ := e
  obtain ⟨k, k1, k2, e⟩ := kO e
  have hk : ys.length = k := by omega
  have e2 := UG h1 e hk
  obtain ⟨cs, hsrc, hf⟩ := wT H hx hy
  obtain ⟨b, g, ⟨c0, hc0⟩, rfl⟩ := (show DB P (qd W0 γ (eL L) h) γ (eL L) h (.aref id off n) v from hd)
  have hi : (eL L)[id]? = some (.st (cells.map qr)) := z7 hL
  have hO := H.obj id _ hi
  obtain ⟨b', te', vs, g', hb, hall⟩ := hO
  rw [g] at g'; cases g'
  have hlt : id < L.length := (List.getElem?_eq_some_iff.1 hL).1
  have hvl : vs.length = cells.length := by rw [← hall.length]; simp
  rw [h1] at hs hf hsrc
  rw [List.length_map, hk] at hsrc
  have hcs : cs.length = k := by rw [hf.len, Nat.mul_one, List.length_map, hk]
  have hcells : All2 (DC P (qd W0 γ (eL L) h) γ (eL L) h) ((ys.flatMap (tvC c)).map qr) cs := by
   refine All2.of_get ?_ fun i a b2 ha hb2 => ?_
   ·rw [List.length_map, List.length_flatMap, hcs, ← hk]
    have : ∀ l : List c.T, (l.map fun y => (tvC c y).length).sum = l.length := by
     intro l
     induction l with
     | nil => rfl
     | cons y l ih => rw [List.map_cons, List.sum_cons, ih, a2i, h1, List.length_cons, Nat.add_comm]
    exact this ys
   ·have hil : i < ys.length := by
     have := (List.getElem?_eq_some_iff.1 hb2).1
     omega
    obtain ⟨y, hyi⟩ : ∃ y, ys[i]? = some y := ⟨_, List.getElem?_eq_getElem hil⟩
    have hfm : ∀ (l : List c.T) (i : Nat) (y : c.T), l[i]? = some y → ((l.flatMap (tvC c)).map qr)[i]? = ((tvC c y).map qr)[0]? := by
     intro l
     induction l with
     | nil => intro i y q; simp at q
     | cons y0 l ih =>
      intro i y q
      obtain ⟨a0, ha0⟩ : ∃ a, tvC c y0 = [a] := List.length_eq_one_iff.1 (by rw [a2i, h1])
      rw [List.flatMap_cons, ha0, List.singleton_append, List.map_cons]
      cases i with
      | zero => simp at q; subst q; rw [ha0]; rfl
      | succ i => rw [List.getElem?_cons_succ]; exact ih i y (by simpa using q)
    rw [hfm ys i y hyi, Qh] at ha
    have hrow : (ys.map (qM c))[i]? = some (qM c y) := by rw [List.getElem?_map, hyi]; rfl
    obtain ⟨p, hp⟩ : ∃ p, qM c y = [p] := List.length_eq_one_iff.1 (by rw [k9, h1])
    rw [hp] at ha hrow
    cases ha
    exact hf.get i [p] 0 p b2 hrow rfl (by simpa using hb2)
  unfold JW
  simp only [hu, hs, hsrc]
  by_cases h0k : k = 0
  ·rw [if_pos h0k]
   subst h0k
   have hys : ys = [] := List.length_eq_zero_iff.1 hk
   subst hys
   have hset : L.set id (.st (kY cells off (([] : List c.T).flatMap (tvC c)))) = L := by
    refine List.ext_getElem? fun j => ?_
    by_cases hj : j = id
    ·subst hj; rw [List.getElem?_set_self hlt, hL]; rfl
    ·rw [List.getElem?_set_ne (Ne.symm hj)]
   rw [hset] at e2
   exact ⟨_, _, rfl, γ, _, _, e2, H, Carry.refl _ _ _, PR.v rfl⟩
  ·rw [if_neg h0k, if_pos (by omega)]
   simp only [hb]
   rw [if_pos (by omega)]
   obtain ⟨a1, a2⟩ := a5l H (cells' := kq (cells.map qr) off ((ys.flatMap (tvC c)).map qr)) (vs' := qL vs off cs) hi g hb (yD hall hcells)
   have hset : (eL L).set id (.st (kq (cells.map qr) off ((ys.flatMap (tvC c)).map qr))) = eL (L.set id (.st (kY cells off (ys.flatMap (tvC c))))) := by
    rw [yR]
    congr 1
    show Obj.st _ = Obj.st _
    rw [Qz]
   rw [hset] at a1 a2
   exact ⟨_, _, rfl, γ, _, _, e2, a1, a2, PR.v rfl⟩
 ·cases e
end
open Go.RowKit
section
variable {R : Type}
def a1D (P : Program) (ty : TypeId → Option CT) (L : List TO) (t : TypeId) (x : TV) (lo hi : Option Int) (K : TV → List TO → Tree R) : Tree R :=
 match P.underlying t with
 | some (.array n e) => match x with
  | .ptr id off => ql (szT P e) fun s => if n ≤ maxLen then J0 (hi.getD n) (n + 1) fun r => J0 (lo.getD 0) (r + 1) fun l => match decide (l < n) with
   | true => K (.aref id (off + l * s) (r - l)) L
   | false => ql (ty e) fun c => K (.ref L.length 0) (L ++ [.li c e false []]) else .fail
  | _ => .fail
 | some (.slice e) => match x with
  | .aref id off n => ql (szT P e) fun s => J0 (hi.getD n) (n + 1) fun r => J0 (lo.getD 0) (r + 1) fun l => match decide (l < n) with
   | true => K (.aref id (off + l * s) (r - l)) L
   | false => .fail
  | _ => .fail
 | _ => .fail
def aj3 : Option TV → Bool
 | some (.ptr _ _) => true
 | some (.aref _ _ _) => true
 | _ => false
def a4O (P : Program) (ty : TypeId → Option CT) (call : wD R) (o : Op) (ρ : Zq) (L : List TO) (K : TV → List TO → Tree R) : Tree R :=
 match o with
 | .slice t x lo (some hi) (some mx) => ql (ρ x) fun x => ql (Uw ρ lo) fun lo => ql (Uw ρ (some hi)) fun hi => ql (Uw ρ (some mx)) fun mx => match hi, mx with
  | some hi, some mx => a22 P ty L t x lo hi mx K
  | _, _ => .fail
 | .slice t x lo hi none => match aj3 (ρ x) with
  | true => ql (ρ x) fun x => ql (Uw ρ lo) fun lo => ql (Uw ρ hi) fun hi => a1D P ty L t x lo hi K
  | false => WM P ty call (.slice t x lo hi none) ρ L K
 | .makeSlice t l c => match ρ l, ρ c with
  | some (.v (.int _ a)), some (.v (.int _ b)) => adV P ty L t a b K
  | _, _ => .fail
 | .index t x i => match P.underlying t, ρ x, ρ i with
  | some (.array n e), some (.agg cs), some (.v (.int _ j)) => ql (szT P e) fun s => J0 j n fun m => ql (Zz P e cs (m * s)) fun d => K d L
  | _, _, _ => WM P ty call (.index t x i) ρ L K
 | .indexAddr t x i => match P.underlying t, ρ x, ρ i with
  | some (.array n e), some (.ptr id off), some (.v (.int _ j)) => ql (szT P e) fun s => J0 j n fun m => K (.ptr id (off + m * s)) L
  | some (.slice e), some (.aref id off n), some (.v (.int _ j)) => ql (szT P e) fun s => J0 j n fun m => K (.ptr id (off + m * s)) L
  | _, _, _ => WM P ty call (.indexAddr t x i) ρ L K
 | .call { callee := .builtin .copy, args := args, argTypes := ts } => ql (Wh ρ args.toList) fun ds => match ds with
  | [d, x] => adt P ty L ts.toList d x K
  | _ => .fail
 | .call { callee := .builtin .append, args := args, argTypes := ts } => match Wh ρ args.toList with
  | some [.slx c xs, x] => ads P ts.toList L c xs x K
  | _ => WM P ty call (.call { callee := .builtin .append, args := args, argTypes := ts }) ρ L K
 | o => WM P ty call o ρ L K
variable {P : Program} {γ : Pl} {L : List TO} {h : Heap} {h0 : Heap} {W0 : Ent} {z : R} {K : TV → List TO → Tree R}
theorem a9d {lo hi : Option Int} {n l r : Nat} {vl vh : Option Value} (b1 : BdV lo vl) (b2 : BdV hi vh) (h1 : hi.getD n = r) (h2 : lo.getD 0 = l) (h3 : l ≤ r) (h4 : r ≤ n) : qE n n vl vh none = some (l, r, none) := by
 unfold qE
 cases hi with
 | none =>
  have hr : r = n := by simp at h1; omega
  subst hr
  cases vh with
  | some _ => cases b2
  | none =>
   simp only
   cases lo with
   | none =>
    have hl : l = 0 := by simp at h2; omega
    subst hl
    cases vl with
    | none => rfl
    | some _ => cases b1
   | some q =>
    obtain ⟨k1, rfl⟩ := QR b1
    simp only [Option.getD_some] at h2
    subst h2
    simp only [Ju (show (0 : Int) ≤ (l : Int) by omega), Int.toNat_natCast]
    rw [if_pos h3]
 | some q =>
  obtain ⟨k1, rfl⟩ := QR b2
  simp only [Option.getD_some] at h1
  subst h1
  simp only [Ju (show (0 : Int) ≤ (r : Int) by omega), Int.toNat_natCast]
  rw [if_pos h4]
  cases lo with
  | none =>
   have hl : l = 0 := by simp at h2; omega
   subst hl
   cases vl with
   | none => rfl
   | some _ => cases b1
  | some q =>
   obtain ⟨k2, rfl⟩ := QR b1
   simp only [Option.getD_some] at h2
   subst h2
   simp only [Ju (show (0 : Int) ≤ (l : Int) by omega), Int.toNat_natCast]
   rw [if_pos h3]
theorem uN {ty : TypeId → Option CT} {t : TypeId} {x : TV} {lo hi : Option Int} {vl vh : Option Value} {v : Value} (H : Hp P h0 W0 γ (eL L) h) (hx : DR P (qd W0 γ (eL L) h) γ (eL L) h (enc x) v) (b1 : BdV lo vl) (b2 : BdV hi vh)
  (e : (a1D P ty L t x lo hi K).run = some z) : ∃ u, z9 P (qV P h) t v vl vh none = some u ∧ Zg P h0 W0 γ L h K z u h := by
 unfold a1D at e
 split at e
 ·rename_i n te hu
  split at e
  case h_2 => cases e
  rename_i id off
  replace e := q9 e; obtain ⟨s, hs, e⟩ := e
  split at e
  case isFalse => cases e
  rename_i hn
  obtain ⟨r, r1, r2, e'⟩ := kO e
  clear e
  obtain ⟨l, l1, l2, e⟩ := kO e'
  clear e'
  have hb := a9d b1 b2 r2 l2 (by omega) (by omega)
  by_cases hl : l < n
  ·rw [decide_eq_true hl] at e
   have hd : jN P (eL L) t (.ptr id off) vl vh none = some (.aref id (off + l * s) (r - l)) := by
    unfold jN
    simp only [hu, hs, hb]
    rw [if_pos ⟨hl, hn⟩]
   obtain ⟨u, u1, u2⟩ := yz H (x := .ptr id off) hx hd
   exact ⟨u, u1, γ, _, _, e, H, Carry.refl _ _ _, u2⟩
  ·rw [decide_eq_false hl] at e
   replace e := q9 e; obtain ⟨c, hc, e⟩ := e
   obtain ⟨b, g, hst, rfl⟩ := (show DB P (qd W0 γ (eL L) h) γ (eL L) h (.ptr id off) v from hx)
   have hln : l = n := by omega
   have hrn : r = n := by omega
   subst hln hrn
   refine ⟨.slice (some ⟨b, off, none⟩) 0 0, ?_, ?_⟩
   ·unfold z9
    simp only [hu, hs, hb, Option.getD_none, Nat.sub_self]
    rw [if_pos hn, if_pos trivial]
   ·obtain ⟨a1, a2, a3⟩ := YS H (v := .slice (some ⟨b, off, none⟩) 0 0) (.inr ⟨_, _, rfl⟩)
    rw [show ([Obj.li none []] : List Obj) = [kh (TO.li c te false [])] from rfl, ← j9] at a1 a2
    refine ⟨γ, _, _, e, a1, a2, ?_⟩
    rw [VN, j9, ← zH L]
    exact a3
 ·rename_i te hu
  split at e
  case h_2 => cases e
  rename_i id off n
  replace e := q9 e; obtain ⟨s, hs, e⟩ := e
  obtain ⟨r, r1, r2, e'⟩ := kO e
  clear e
  obtain ⟨l, l1, l2, e⟩ := kO e'
  clear e'
  have hb := a9d b1 b2 r2 l2 (by omega) (by omega)
  by_cases hl : l < n
  ·rw [decide_eq_true hl] at e
   have hd : jN P (eL L) t (.aref id off n) vl vh none = some (.aref id (off + l * s) (r - l)) := by
    unfold jN
    simp only [hu, hs, hb]
    rw [if_pos hl]
   obtain ⟨u, u1, u2⟩ := yz H (x := .aref id off n) hx hd
   exact ⟨u, u1, γ, _, _, e, H, Carry.refl _ _ _, u2⟩
  ·rw [decide_eq_false hl] at e
   cases e
 ·cases e
theorem a8X {ρ : Zq} {r : Rho} (hρ : YG P W0 γ (eL L) h (QE ρ) r) {x : Operand} {k : IntKind} {n : Int} (e : ρ x = some (.v (.int k n))) : r x = some (.int k n) := by
 obtain ⟨v, e1, r1⟩ := zV hρ e
 have : v = .int k n := PR.scal (P := P) (S := qd W0 γ (eL L) h) (h := h) r1
 rw [e1, this]
theorem WN {ρ : Zq} {r : Rho} (hρ : YG P W0 γ (eL L) h (QE ρ) r) {x : Option Operand} {n : Option Int} (h : Uw ρ x = some n) : ∃ v, jn r x = some v ∧ BdV n v := by
 obtain ⟨v, h1, h2⟩ := a16 h
 exact ⟨v, Ze hρ h1, h2⟩
theorem Xu {ty : TypeId → Option CT} {call : wD R} {wr : TWr} (hcall : TCallOk P call wr) {o : Op} {ρ : Zq} {r : Rho} (H : Hp P h0 W0 γ (eL L) h) (hρ : YG P W0 γ (eL L) h (QE ρ) r) (e : (a4O P ty call o ρ L K).run = some z) : qB P o r h (Zg P h0 W0 γ L h K z) := by
 unfold a4O at e
 split at e
 ·rename_i t x lo hi mx
  replace e := q9 e; obtain ⟨x', h1, e⟩ := e
  replace e := q9 e; obtain ⟨lo', h2, e⟩ := e
  replace e := q9 e; obtain ⟨hi', h3, e⟩ := e
  replace e := q9 e; obtain ⟨mx', h4, e⟩ := e
  split at e
  case h_2 => cases e
  obtain ⟨v, v1, v2⟩ := zV hρ h1
  obtain ⟨vl, l1, l2⟩ := WN hρ h2
  obtain ⟨vh, l3, l4⟩ := WN hρ h3
  obtain ⟨vm, l5, l6⟩ := WN hρ h4
  obtain ⟨u, u1, u2⟩ := Up H v2 l2 l4 l6 e
  simp only [qB, v1, l1, l3, l5, u1]
  exact u2
 ·rename_i t x lo hi
  split at e
  ·replace e := q9 e; obtain ⟨x', h1, e⟩ := e
   replace e := q9 e; obtain ⟨lo', h2, e⟩ := e
   replace e := q9 e; obtain ⟨hi', h3, e⟩ := e
   obtain ⟨v, v1, v2⟩ := zV hρ h1
   obtain ⟨vl, l1, l2⟩ := WN hρ h2
   obtain ⟨vh, l3, l4⟩ := WN hρ h3
   obtain ⟨u, u1, u2⟩ := uN H v2 l2 l4 e
   have l5 : jn r none = some none := rfl
   simp only [qB, v1, l1, l3, l5, u1]
   exact u2
  ·exact ji hcall H hρ e
 ·rename_i t l c
  split at e
  ·rename_i ka a kb b h1 h2
   obtain ⟨q, mk, m1, m2⟩ := a3q (ka := ka) (kb := kb) H e
   have n1 : jp P (.makeSlice t l c) r = some (q, mk) := by
    simp only [jp, a8X hρ h1, a8X hρ h2]
    exact m1
   simp only [qB, n1]
   exact m2
  ·cases e
 ·rename_i t x i
  split at e
  ·rename_i n te cs ki j hu hx hi
   replace e := q9 e; obtain ⟨s, hs, e⟩ := e
   obtain ⟨m, m1, rfl, e'⟩ := kO e
   refine ji hcall H hρ (ty := ty) (call := call) ?_
   unfold WM
   simp only [hx, hi, ql, VT, hu, Ug, hs, Int.toNat_natCast]
   rw [qa, if_pos ⟨by omega, m1⟩]
   exact e'
  ·exact ji hcall H hρ e
 ·rename_i t x i
  split at e
  ·rename_i n te id off ki j hu hx hi
   replace e := q9 e; obtain ⟨s, hs, e⟩ := e
   obtain ⟨m, m1, rfl, e'⟩ := kO e
   refine ji hcall H hρ (ty := ty) (call := call) ?_
   unfold WM
   simp only [hx, hi, ql, Q3, hu, Ug, hs, Int.toNat_natCast, ton]
   rw [qa, if_pos ⟨by omega, m1⟩]
   exact e'
  ·rename_i te id off n ki j hu hx hi
   replace e := q9 e; obtain ⟨s, hs, e⟩ := e
   obtain ⟨m, m1, rfl, e'⟩ := kO e
   refine ji hcall H hρ (ty := ty) (call := call) ?_
   unfold WM
   simp only [hx, hi, ql, Q3, hu, Ug, hs, Int.toNat_natCast]
   rw [qa, if_pos ⟨by omega, m1⟩]
   exact e'
  ·exact ji hcall H hρ e
 ·rename_i args ts
  replace e := q9 e; obtain ⟨ds, h1, e⟩ := e
  split at e
  case h_2 => cases e
  rename_i d x
  obtain ⟨vs, e3, r3⟩ := zn hρ (ds := [d, x].map enc) (by rw [kE, h1]; rfl)
  cases r3 with
  | cons hd t => cases t with
   | cons hx t =>
    cases t
    obtain ⟨u, h', u1, u2⟩ := a4h H hd hx e
    simp only [qB, e3, u1]
    exact u2
 ·rename_i args ts
  split at e
  ·rename_i c xs x h1
   obtain ⟨vs, e3, r3⟩ := zn hρ (ds := [.slx c xs, x].map enc) (by rw [kE, h1]; rfl)
   cases r3 with
   | cons hd t => cases t with
    | cons hx t =>
     cases t
     obtain ⟨u, h', u1, u2, _⟩ := vE H hd hx e
     simp only [qB, e3, u1]
     exact u2
  ·exact ji hcall H hρ e
 ·exact ji hcall H hρ e
end
open Go.RowKit
section
variable {R : Type}
def aaK : Value → Value → Option Bool
 | .int k a, .int k' b => if k = k' then some (decide (a = b)) else none
 | .string a, .string b => some (a == b)
 | .bool a, .bool b => some (a == b)
 | _, _ => none
def a9f (k : Value) : List (Value × TV) → (TV → Tree R) → Tree R → Tree R
 | [], _, N => N
 | e :: es, K, N => match aaK k e.1 with
  | some b => .cond b (K e.2) (a9f k es K N)
  | none => .fail
def a2G (k : Value) : List (Value × TV) → Bool
 | [] => true
 | e :: es => match aaK k e.1 with
  | some false => a2G k es
  | _ => false
def tvZ (z : Value) : Option TV := match constK z with
 | true => (match z with
  | .agg xs => match xs.toList.all scal with
   | true => some (.agg (xs.toList.map .v))
   | false => none
  | z => match scal z with
   | true => some (.v z)
   | false => none)
 | false => none
def uu (P : Program) (L : List TO) (t : TypeId) (K : TV → List TO → Tree R) : Tree R := match P.underlying t with
 | some (.map _ _) => K (.mref L.length) (L ++ [.mp []])
 | _ => .fail
def a21 (P : Program) (L : List TO) (t : TypeId) (m k v : TV) (K : List TO → Tree R) : Tree R := match P.underlying t, m, k with
 | some (.map kt _), .mref id, .v kv => match L[id]? with
  | some (.mp es) => match kV P kt kv && a2G kv es && QL v with
   | true => K (L.set id (.mp (es ++ [(kv, v)])))
   | false => .fail
  | _ => .fail
 | _, _, _ => .fail
def a0O (P : Program) (L : List TO) (t : TypeId) (m k : TV) (ok : Bool) (K : TV → List TO → Tree R) : Tree R := match P.underlying t, m, k with
 | some (.map kt et), .mref id, .v kv => match L[id]? with
  | some (.mp es) => match kV P kt kv with
   | true => a9f kv es (fun v => match ok with
     | true => K (.tup [v, .v (.bool true)]) L
     | false => K v L) (ql ((P.info? et).bind (·.zero)) fun zv => ql (tvZ zv) fun zt => match ok with
     | true => K (.tup [zt, .v (.bool false)]) L
     | false => K zt L)
   | false => .fail
  | _ => .fail
 | _, _, _ => .fail
def a1a (P : Program) (ty : TypeId → Option CT) (L : List TO) (t : TypeId) (K : TV → List TO → Tree R) : Tree R :=
 match P.underlying t with
 | some (.slice e) => ql (ty e) fun c => ql (qT P e) fun _ => if szT P e = some c.size then K (.ref L.length 0) (L ++ [.li c e false []]) else .fail
 | _ => .fail
def top (P : Program) (ty : TypeId → Option CT) (call : wD R) (o : Op) (ρ : Zq) (L : List TO) (K : TV → List TO → Tree R) : Tree R :=
 match o with
 | .makeMap t none => uu P L t K
 | .insert t x y z => ql (ρ x) fun m => ql (ρ y) fun k => ql (ρ z) fun v => a21 P L t m k v fun L' => K a7a L'
 | .lookup t x y ok => ql (ρ x) fun m => ql (ρ y) fun k => a0O P L t m k ok K
 | .buildSlice t n ps => match decide (n = 0) && ps.toList.isEmpty with
  | true => a1a P ty L t K
  | false => a4O P ty call (.buildSlice t n ps) ρ L K
 | o => a4O P ty call o ρ L K
variable {P : Program} {γ : Pl} {L : List TO} {h : Heap} {h0 : Heap} {W0 : Ent} {z : R} {K : TV → List TO → Tree R}
theorem a0P (a b : Int) : (a == b) = decide (a = b) := by by_cases h : a = b <;> simp [h]
theorem a4r {kt : TypeId} {x y : Value} {b : Bool} (hk : kV P kt x = true) (e : aaK x y = some b) : We P kt x y = some b := by
 unfold kV at hk
 unfold We
 split at hk
 ·rename_i hu; simp only [hu, wi, if_true]
  cases y with
  | int k' n' => simp only [aaK] at e; simp only [Instr.sameNow, a0P]; exact e
  | _ => cases e
 ·rename_i hu; simp only [hu, wi, if_true]
  cases y with
  | string s => simp only [aaK] at e; simp only [Instr.sameNow]; exact e
  | _ => cases e
 ·rename_i hu; simp only [hu, wi, if_true]
  cases y with
  | bool s => simp only [aaK] at e; simp only [Instr.sameNow]; exact e
  | _ => cases e
 ·cases y <;> cases e
 ·cases hk
abbrev MpR (P : Program) (S : Nat → Prop) (γ : Pl) (Lo : List Obj) (h : Heap) : Value × DV → MapEntry → Prop := fun d e => e.key = d.1 ∧ D1 P S γ Lo h d.2 e.val
theorem uj {kt : TypeId} {k : Value} (hk : kV P kt k = true) {S : Nat → Prop} {Lo : List Obj} {Kv : TV → Tree R} {N : Tree R} : ∀ {es : List (Value × TV)} {mes : List MapEntry} (i : Nat), (a9f k es Kv N).run = some z → All2 (MpR P S γ Lo h) (es.map fun x => (x.1, qU x.2)) mes →
  (wz P kt k mes i = some none ∧ N.run = some z) ∨ ∃ j u v, wz P kt k mes i = some (some (j, u)) ∧ D1 P S γ Lo h (qU v) u ∧ (Kv v).run = some z
 | [], _, i, e, .nil => .inl ⟨rfl, e⟩
 | x :: es, _, i, e, .cons (b := y) hy t => by
  unfold a9f at e
  split at e
  case h_2 => cases e
  rename_i b hb
  have h1 := a4r hk hb
  rw [← hy.1] at h1
  unfold wz
  cases b with
  | true => exact .inr ⟨i, _, x.2, by rw [h1], hy.2, e⟩
  | false =>
   rw [h1]
   exact uj hk (i + 1) e t
theorem vG {kt : TypeId} {k : Value} (hk : kV P kt k = true) {S : Nat → Prop} {Lo : List Obj} : ∀ {es : List (Value × TV)} {mes : List MapEntry} (i : Nat), a2G k es = true → All2 (MpR P S γ Lo h) (es.map fun x => (x.1, qU x.2)) mes → wz P kt k mes i = some none
 | [], _, i, e, .nil => rfl
 | x :: es, _, i, e, .cons (b := y) hy t => by
  unfold a2G at e
  split at e
  case h_2 => cases e
  rename_i hb
  have h1 := a4r hk hb
  rw [← hy.1] at h1
  unfold wz
  rw [h1]
  exact vG hk (i + 1) e t
theorem scs {S : Nat → Prop} {Lo : List Obj} : ∀ {l : List Value}, l.all scal = true → All2 (DC P S γ Lo h) ((l.map TV.v).map qr) l
 | [], _ => .nil
 | v :: l, e => by
  simp only [List.all_cons, Bool.and_eq_true] at e
  exact .cons (PR.v e.1) (scs e.2)
theorem acJ {zv : Value} {zt : TV} (e : tvZ zv = some zt) {S : Nat → Prop} {Lo : List Obj} : constK zv = true ∧ D1 P S γ Lo h (qU zt) zv := by
 unfold tvZ at e
 split at e
 case h_2 => cases e
 rename_i hc
 refine ⟨hc, ?_⟩
 split at e
 ·rename_i xs _
  split at e
  ·rename_i hs
   cases e
   exact ⟨_, rfl, scs hs⟩
  ·cases e
 ·split at e
  ·rename_i hs
   cases e
   exact PR.v hs
  ·cases e
theorem acR {S : Nat → Prop} {Lo : List Obj} {v : TV} {u : Value} {b : Bool} (hd : D1 P S γ Lo h (qU v) u) : DR P S γ Lo h (enc (.tup [v, .v (.bool b)])) (.tuple #[u, .bool b]) :=
 ⟨_, rfl, .cons hd (.cons (PR.v rfl) .nil)⟩
theorem a8Y {S : Nat → Prop} {Lo : List Obj} {v : TV} {u : Value} (hd : D1 P S γ Lo h (qU v) u) : DR P S γ Lo h (enc v) u := by
 cases v <;> first | exact hd | (exact hd.elim)
theorem agn {S : Nat → Prop} {Lo : List Obj} {v : TV} {u : Value} (h1 : QL v = true) (hd : DR P S γ Lo h (enc v) u) : D1 P S γ Lo h (qU v) u := by
 cases v <;> first | exact hd | (cases h1)
theorem uM {t : TypeId} {m k : TV} {ok : Bool} {v u : Value} (H : Hp P h0 W0 γ (eL L) h) (hm : DR P (qd W0 γ (eL L) h) γ (eL L) h (enc m) v) (hk : DR P (qd W0 γ (eL L) h) γ (eL L) h (enc k) u)
  (e : (a0O P L t m k ok K).run = some z) : ∃ w, Jz P t h v u ok = some w ∧ Zg P h0 W0 γ L h K z w h := by
 unfold a0O at e
 split at e
 case h_2 => cases e
 rename_i kt et id kv hu
 split at e
 case h_2 => cases e
 rename_i es hL
 split at e
 case h_2 => cases e
 rename_i hok
 obtain ⟨b, g, ⟨_, _⟩, rfl⟩ := (show DB P (qd W0 γ (eL L) h) γ (eL L) h (.mref id) v from hm)
 have : u = kv := PR.scal (P := P) (S := qd W0 γ (eL L) h) (h := h) hk
 subst this
 obtain ⟨b', mes, ck, g', hg, ha⟩ := (show OR P (qd W0 γ (eL L) h) γ (eL L) h id (.mp (es.map fun x => (x.1, qU x.2))) from H.obj id _ (z7 hL))
 rw [g] at g'; cases g'
 have fin : ∀ {d : TV} {w : Value}, (K d L).run = some z → DR P (qd W0 γ (eL L) h) γ (eL L) h (enc d) w → Zg P h0 W0 γ L h K z w h := fun h1 h2 => ⟨γ, _, _, h1, H, Carry.refl _ _ _, h2⟩
 unfold Jz
 simp only [hu, jH, hg, hok, if_true]
 rcases uj hok 0 e ha with ⟨h1, h2⟩ | ⟨j, w, x, h1, h2, h3⟩
 ·simp only [h1]
  replace h2 := q9 h2; obtain ⟨zv, hz, h2⟩ := h2
  replace h2 := q9 h2; obtain ⟨zt, hzt, h2⟩ := h2
  obtain ⟨c1, c2⟩ := acJ (P := P) (γ := γ) (h := h) (S := qd W0 γ (eL L) h) (Lo := eL L) hzt
  simp only [hz, c1, if_true]
  cases ok with
  | true => exact ⟨_, rfl, fin h2 (acR c2)⟩
  | false => exact ⟨_, rfl, fin h2 (a8Y c2)⟩
 ·simp only [h1]
  cases ok with
  | true => exact ⟨_, rfl, fin h3 (acR h2)⟩
  | false => exact ⟨_, rfl, fin h3 (a8Y h2)⟩
theorem JR {t : TypeId} {m k x : TV} {v u w : Value} {Ks : List TO → Tree R} (H : Hp P h0 W0 γ (eL L) h) (hm : DR P (qd W0 γ (eL L) h) γ (eL L) h (enc m) v) (hk : DR P (qd W0 γ (eL L) h) γ (eL L) h (enc k) u) (hx : DR P (qd W0 γ (eL L) h) γ (eL L) h (enc x) w)
  (e : (a21 P L t m k x Ks).run = some z) : ∃ h' L' id b, Qp P t h v u w = some h' ∧ Hp P h0 W0 γ (eL L') h' ∧ Carry W0 γ (eL L) h γ (eL L') h' ∧ (Ks L').run = some z ∧ γ id = some (b, 0) ∧ (∃ es, (eL L)[id]? = some (.mp es)) ∧ ∀ b', b' ≠ b → h'.get b' = h.get b' := by
 unfold a21 at e
 split at e
 case h_2 => cases e
 rename_i kt et id kv hu
 split at e
 case h_2 => cases e
 rename_i es hL
 split at e
 case h_2 => cases e
 rename_i hc
 simp only [Bool.and_eq_true] at hc
 obtain ⟨⟨hok, hfr⟩, h1x⟩ := hc
 obtain ⟨b, g, ⟨_, _⟩, rfl⟩ := (show DB P (qd W0 γ (eL L) h) γ (eL L) h (.mref id) v from hm)
 have : u = kv := PR.scal (P := P) (S := qd W0 γ (eL L) h) (h := h) hk
 subst this
 have hi := z7 hL
 obtain ⟨b', mes, ck, g', hg, ha⟩ := (show OR P (qd W0 γ (eL L) h) γ (eL L) h id (.mp (es.map fun x => (x.1, qU x.2))) from H.obj id _ hi)
 rw [g] at g'; cases g'
 have hf := vG hok 0 hfr ha
 have c : Carry W0 γ (eL L) h γ ((eL L).set id (kh (.mp (es ++ [(u, x)])))) (h.set b (.map (mes ++ [⟨u, w, ck⟩]) (ck + 1))) := by
  refine w8 hi (.inl rfl) (fun _ _ => rfl) (fun c q => ?_) (fun _ q => ?_) (Nat.le_refl _) (fun _ _ q _ => .inl q) (fun b2 _ q => ?_) (fun c q => ⟨rfl, _, rfl⟩)
  ·cases q
  ·exact q.elim
  ·exact Heap.get_set_ne _ _ fun q2 => q 0 (by rw [q2]; exact g)
 refine ⟨h.set b (.map (mes ++ [⟨u, w, ck⟩]) (ck + 1)), L.set id (.mp (es ++ [(u, x)])), id, b, ?_, ?_, ?_, e, g, ⟨_, hi⟩, fun b2 q => Heap.get_set_ne _ _ q⟩
 ·unfold Qp
  simp only [hu, hg, hok, if_true, hf, a1F, a0r]
 ·rw [yR]
  refine Hp.write H hi (.inl rfl) c (fun _ _ => rfl) (Nat.le_refl _) (fun _ _ q => .inl ⟨_, q⟩) (fun _ _ => (List.getElem?_eq_some_iff.1 hi).1) (fun b2 _ q => Heap.get_set_ne _ _ fun q2 => q 0 (by rw [q2]; exact g)) ?_
  refine ⟨b, _, _, g, Heap.get_set_self hg, ?_⟩
  rw [List.map_append]
  exact (ha.mono fun _ _ q => ⟨q.1, c.d1 q.2⟩).append (.cons ⟨rfl, c.d1 (agn h1x hx)⟩ .nil)
 ·rw [yR]; exact c
theorem Xl {t : TypeId} (H : Hp P h0 W0 γ (eL L) h) (e : (uu P L t K).run = some z) : (∃ a b, P.underlying t = some (.map a b)) ∧ Zg P h0 W0 γ L h K z (.map (some h.next)) (h.push (.map [] 0)) := by
 unfold uu at e
 split at e
 case h_2 => cases e
 rename_i a b hu
 refine ⟨⟨a, b, hu⟩, wC γ (eL L).length h.next, _, _, e, ?_, ?_, ?_⟩
 ·rw [j9]
  exact Hp.push H ⟨h.next, [], 0, by simp [wC], by rw [Heap.get_push, if_pos rfl], .nil⟩
 ·rw [j9]
  exact ZF H.dom _ _
 ·refine ⟨h.next, ?_, ⟨[], ?_⟩, rfl⟩
  ·rw [← zH L]; simp [wC]
  ·rw [j9, ← zH L, List.getElem?_append_right (Nat.le_refl _), Nat.sub_self]; rfl
theorem U9 {ty : TypeId → Option CT} {t : TypeId} (H : Hp P h0 W0 γ (eL L) h) (e : (a1a P ty L t K).run = some z) :
  ∃ q mk, kM P t 0 [] = some (q, mk) ∧ Zg P h0 W0 γ L h K z (mk h.next) (h.push q) := by
 unfold a1a at e
 split at e
 case h_2 => cases e
 rename_i te hu
 replace e := q9 e; obtain ⟨c, hc, e⟩ := e
 replace e := q9 e; obtain ⟨zc, hz, e⟩ := e
 split at e
 case isFalse => cases e
 rename_i hs
 have hfill : Instr.fill (fun i => some (i * c.size, c.size)) (jJ zc 0).toArray [] = some (jJ zc 0).toArray := rfl
 refine ⟨.cells (jJ zc 0).toArray.toList te true, qu 0 0, ?_, ?_⟩
 ·unfold kM
  simp only [hu, hz, hs, hfill]
  rw [if_pos ⟨by omega, CT.size_pos c, by omega⟩]
 ·obtain ⟨H1, c1⟩ := H.grow (h' := h.push (.cells (jJ zc 0).toArray.toList te true)) (by simp) (fun b hb => Heap.get_push_ne _ _ (by omega))
  obtain ⟨a1, a2, a3⟩ := YS H1 (v := .slice (some ⟨h.next, 0, none⟩) 0 0) (.inr ⟨_, _, rfl⟩)
  rw [show ([Obj.li none []] : List Obj) = [kh (TO.li c te false [])] from rfl, ← j9] at a1 a2
  refine ⟨γ, _, _, e, a1, c1.trans' a2, ?_⟩
  rw [VN, j9, ← zH L]
  exact a3
theorem vd {ty : TypeId → Option CT} {call : wD R} {wr : TWr} (hcall : TCallOk P call wr) {o : Op} {ρ : Zq} {r : Rho} (H : Hp P h0 W0 γ (eL L) h) (hρ : YG P W0 γ (eL L) h (QE ρ) r) (e : (top P ty call o ρ L K).run = some z) : qB P o r h (Zg P h0 W0 γ L h K z) := by
 unfold top at e
 split at e
 ·rename_i t
  obtain ⟨⟨a, b, hu⟩, q⟩ := Xl H e
  simp only [qB, jp, hu]
  exact q
 ·rename_i t x y z'
  replace e := q9 e; obtain ⟨m, h1, e⟩ := e
  replace e := q9 e; obtain ⟨k, h2, e⟩ := e
  replace e := q9 e; obtain ⟨v, h3, e⟩ := e
  obtain ⟨v1, e1, r1⟩ := zV hρ h1
  obtain ⟨v2, e2, r2⟩ := zV hρ h2
  obtain ⟨v3, e3, r3⟩ := zV hρ h3
  obtain ⟨h', L', _, _, q1, q2, q3, q4, _⟩ := JR H r1 r2 r3 e
  simp only [qB, e1, e2, e3, q1]
  exact ⟨γ, _, _, q4, q2, q3, ⟨#[], rfl, .nil⟩⟩
 ·rename_i t x y ok
  replace e := q9 e; obtain ⟨m, h1, e⟩ := e
  replace e := q9 e; obtain ⟨k, h2, e⟩ := e
  obtain ⟨v1, e1, r1⟩ := zV hρ h1
  obtain ⟨v2, e2, r2⟩ := zV hρ h2
  obtain ⟨w, q1, q2⟩ := uM H r1 r2 e
  simp only [qB, e1, e2, q1]
  exact q2
 ·rename_i t n ps
  split at e
  ·rename_i hc
   simp only [Bool.and_eq_true, decide_eq_true_eq, List.isEmpty_iff] at hc
   obtain ⟨rfl, hps⟩ := hc
   obtain ⟨q, mk, q1, q2⟩ := U9 H e
   have : jp P (.buildSlice t 0 ps) r = some (q, mk) := by
    simp only [jp, hps, K4]
    exact q1
   simp only [qB, this]
   exact q2
  ·exact Xu hcall H hρ e
 ·exact Xu hcall H hρ e
end
open Go.RowKit
def WI : List UInt8 → List UInt8 → Bool
 | [], [] => true
 | a :: r, b :: s => a.toNat == b.toNat && WI r s
 | _, _ => false
theorem J6 : ∀ {r s : List UInt8}, WI r s = true → r = s
 | [], [], _ => rfl
 | a :: r, b :: s, h => by
  simp only [WI, Bool.and_eq_true, beq_iff_eq] at h
  rw [UInt8.toNat_inj.1 h.1, J6 h.2]
 | [], _ :: _, h => by cases h
 | _ :: _, [], h => by cases h
def adD : IntKind → IntKind → Bool := fun a b => decide (a = b)
def a0s (a b : Option Addr) : Bool :=
 match a, b with
 | none, none => true
 | some ⟨x, y, none⟩, some ⟨x', y', none⟩ => x == x' && y == y'
 | _, _ => false
theorem Y3 {a b : Option Addr} (h : a0s a b = true) : a = b := by
 unfold a0s at h
 split at h
 ·rfl
 ·simp only [Bool.and_eq_true, beq_iff_eq] at h
  rw [h.1, h.2]
 ·cases h
mutual
def kp : Value → Value → Bool
 | .bool a, .bool b => a == b
 | .int k n, .int k' n' => adD k k' && decide (n = n')
 | .string s, .string t => WI s.data.toList t.data.toList
 | .pointer a, .pointer b => a0s a b
 | .slice a n c, .slice a' n' c' => a0s a a' && n == n' && c == c'
 | .map a, .map b => decide (a = b)
 | .chan a, .chan b => decide (a = b)
 | .func (.func k) ⟨f⟩ ⟨c⟩, .func (.func k') ⟨f'⟩ ⟨c'⟩ => k == k' && wO f f' && wO c c'
 | .nilFunc, .nilFunc => true
 | .iface t v, .iface t' v' => t == t' && kp v v'
 | .nilIface, .nilIface => true
 | .agg ⟨a⟩, .agg ⟨b⟩ => wO a b
 | .tuple ⟨a⟩, .tuple ⟨b⟩ => wO a b
 | _, _ => false
def wO : List Value → List Value → Bool
 | [], [] => true
 | a :: r, b :: s => kp a b && wO r s
 | _, _ => false
end
mutual
theorem kx : ∀ (a b : Value), kp a b = true → a = b
 | .bool a, b, h => by
  cases b <;> simp_all [kp]
 | .int k n, b, h => by
  cases b <;> simp_all [kp, adD]
 | .string s, b, h => by
  cases b <;> simp only [kp] at h <;> try (cases h; done)
  rename_i t
  have := J6 h
  obtain ⟨⟨s⟩⟩ := s
  obtain ⟨⟨t⟩⟩ := t
  simp only at this
  rw [this]
 | .pointer a, b, h => by
  cases b <;> simp only [kp] at h <;> try (cases h; done)
  rw [Y3 h]
 | .slice a n c, b, h => by
  cases b <;> simp only [kp, Bool.and_eq_true, beq_iff_eq] at h <;> try (cases h; done)
  rw [Y3 h.1.1, h.1.2, h.2]
 | .map a, b, h => by
  cases b <;> simp_all [kp]
 | .chan a, b, h => by
  cases b <;> simp_all [kp]
 | .func f fs cs, b, h => by
  obtain ⟨fs⟩ := fs
  obtain ⟨cs⟩ := cs
  cases f <;> cases b <;> try (simp only [kp] at h; cases h; done)
  rename_i k f' fs' cs'
  obtain ⟨fs'⟩ := fs'
  obtain ⟨cs'⟩ := cs'
  cases f' <;> simp only [kp, Bool.and_eq_true, beq_iff_eq] at h <;> try (cases h; done)
  rw [h.1.1, kn _ _ h.1.2, kn _ _ h.2]
 | .nilFunc, b, h => by
  cases b <;> simp_all [kp]
 | .iface t v, b, h => by
  cases b <;> simp only [kp, Bool.and_eq_true, beq_iff_eq] at h <;> try (cases h; done)
  rw [h.1, kx _ _ h.2]
 | .nilIface, b, h => by
  cases b <;> simp_all [kp]
 | .agg a, b, h => by
  obtain ⟨a⟩ := a
  cases b <;> try (simp only [kp] at h; cases h; done)
  rename_i b
  obtain ⟨b⟩ := b
  rw [kn a b (by simpa only [kp] using h)]
 | .tuple a, b, h => by
  obtain ⟨a⟩ := a
  cases b <;> try (simp only [kp] at h; cases h; done)
  rename_i b
  obtain ⟨b⟩ := b
  rw [kn a b (by simpa only [kp] using h)]
 | .float _ _, b, h => by cases b <;> simp [kp] at h
 | .complex _ _ _, b, h => by cases b <;> simp [kp] at h
theorem kn : ∀ (a b : List Value), wO a b = true → a = b
 | [], b, h => by cases b <;> simp_all [wO]
 | x :: r, b, h => by
  cases b with
  | nil => simp [wO] at h
  | cons y s =>
   simp only [wO, Bool.and_eq_true] at h
   rw [kx x y h.1, kn r s h.2]
end
end Go.Sim
