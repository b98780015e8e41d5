/- Part 6 of the claim RuleNext: T6, T7, TY1, TY2, TY3, TY4, TY5, TY6, I5, T8, T9, TF, T10 -/
import Derived.Scope
import Derived.Test.YtaamhddpmbombaaGreatW5
import Derived.Test.YtaamhddpmbombaaGreatW4
set_option linter.unusedSimpArgs false
set_option linter.unusedVariables false
set_option linter.defProp false
namespace Go.Sim
open Go.RowKit
theorem ahd (id off : Nat) : enc (.ptr id off) = .ptr id off := rfl
theorem ai7 (id i off tot : Nat) : enc (.ep id i off tot) = .ep id i off tot := rfl
theorem UN {z : List PV} {c : CT} {x : c.T} (h : All2 unP (qF c x) z) : ∀ n : Nat, All2 (All2 unP) (List.replicate n (qF c x)) (List.replicate n z)
 | 0 => .nil
 | n + 1 => .cons h (UN h n)
section
variable {R : Type}
def KT (K : TV → List TO → Tree R) (z : R) : DV → List Obj → Prop := fun d L' => ∃ td tL, d = enc td ∧ L' = eL tL ∧ (K td tL).run = some z
def J7 (P : Program) (h0 : Heap) (W0 : Ent) (γ : Pl) (L : List TO) (h : Heap) (K : TV → List TO → Tree R) (z : R) (v : Value) (h' : Heap) : Prop :=
 ∃ γ' d L', (K d L').run = some z ∧ Hp P h0 W0 γ' (eL L') h' ∧ Carry W0 γ (eL L) h γ' (eL L') h' ∧ DR P (qd W0 γ' (eL L') h') γ' (eL L') h' (enc d) v
variable {P : Program} {γ : Pl} {L : List TO} {h : Heap} {h0 : Heap} {W0 : Ent} {z : R} {K : TV → List TO → Tree R}
theorem ads {v : Value} {h' : Heap} (q : Aft P h0 W0 γ (eL L) h (KT K z) v h') : J7 P h0 W0 γ L h K z v h' := by
 obtain ⟨γ', d, L', ⟨td, tL, rfl, rfl, hk⟩, a, b, c⟩ := q
 exact ⟨γ', td, tL, hk, a, b, c⟩
abbrev TWr := FuncId → List TV → List TO → List Nat
def VKept (γ : Pl) (L : List TO) (h h' : Heap) (ids : List Nat) : Prop := ∀ id b, γ id = some (b, 0) → (∃ c, (eL L)[id]? = some (.st c)) → id ∉ ids → h'.get b = h.get b
def TCallOk (P : Program) (call : yc R) (wr : TWr) : Prop := ∀ k ds L K z, (call k ds L K).run = some z → ∀ h0 W0 γ h vs, Hp P h0 W0 γ (eL L) h → All2 (DR P (qd W0 γ (eL L) h) γ (eL L) h) (ds.map enc) vs →
 ADoes P k vs h (fun v h' => Aft P h0 W0 γ (eL L) h (KT K z) v h' ∧ VKept γ L h h' (wr k ds L))
theorem TCallOk.weak {call : yc R} {wr : TWr} (h : TCallOk P call wr) {k : FuncId} {ds : List TV} (hz : (call k ds L K).run = some z) : a0n P k (ds.map enc) (eL L) (KT K z) := fun h0 W0 γ hh vs H hr => (h k ds L K z hz h0 W0 γ hh vs H hr).mono fun _ _ q => q.1
theorem a2X {ρ : KB} {x : Option Operand} {n : Option Int} (h : a1l ρ x = some n) : ∃ v, XG (ZW ρ) x = some v ∧ BdV n v := by
 unfold a1l at h
 unfold XG
 first | (rw [qa] at h; split at h) | split at h
 ·cases h; exact ⟨none, rfl, trivial⟩
 ·rename_i x
  first | (rw [qa] at h; split at h) | split at h
  ·rename_i d hd
   simp only [ZW, hd, Option.map_some]
   cases hi : a15 d with
   | none => rw [hi] at h; cases h
   | some m =>
    rw [hi] at h; cases h
    unfold a15 at hi
    split at hi
    ·cases hi; exact ⟨some _, rfl, rfl⟩
    ·cases hi
  ·cases h
theorem a1V : ∀ {l : List TV}, l.all ahr = true → ∃ ps, All2 UU l ps
 | [], _ => ⟨[], .nil⟩
 | d :: l, h => by
  simp only [List.all_cons, Bool.and_eq_true] at h
  obtain ⟨ps, hp⟩ := a1V h.2
  cases d <;> first | exact ⟨_ :: ps, .cons rfl hp⟩ | cases h.1
theorem a6L : ∀ {l : List TV} {ps qs : List PV}, All2 UU l ps → All2 UU l qs → ps = qs
 | _, _, _, .nil, .nil => rfl
 | _, _, _, .cons (a := a) h t, .cons h' t' => by
  rw [a6L t t']
  congr 1
  cases a <;> first | exact (show _ = _ from h).trans (show _ = _ from h').symm | exact h.elim
theorem U4 : ∀ (c : CT) (x : c.T), All2 UU (tvC c x) (qF c x)
 | .int _, _ => .cons rfl .nil
 | .bool, _ => .cons rfl .nil
 | .str, _ => .cons rfl .nil
 | .sl _, _ => .cons rfl .nil
 | .pair a b, x => (U4 a x.1).append (U4 b x.2)
theorem a53 : ∀ {vs : List TV} {ps : List PV} {cs : List TV} {qs : List PV} (i : Nat), All2 UU cs qs → All2 UU vs ps → All2 UU (jf cs i vs) (kU qs i ps)
 | [], _, cs, qs, i, h, .nil => h
 | v :: vs, _, cs, qs, i, h, .cons a t => a53 (i + 1) (h.set a i) t
theorem aai : ∀ ps : List PV, pvs (ps.map .p) = some ps
 | [] => rfl
 | p :: l => by simp only [List.map_cons, pvs, aai l, Option.map_some]
theorem u5 {l : List TV} {ps : List PV} (h : All2 UU l ps) : pvs (l.map qp) = some ps := by rw [a5y h, aai]
theorem aaU {c : CT} {xs : List c.T} {i : Nat} {z : c.T} {row : List PV} (h : All2 unP (qF c z) row) : Kq ((xs.set i z).map (qF c)) ((xs.map (qF c)).set i row) := by
 refine .inr ?_
 rw [List.map_set]
 exact (All2.refl_of (fun r => All2.refl_of a6U r) _).set h i
theorem vH {t : TypeId} {p x : TV} {v u : Value} {Ks : List TO → Tree R} (H : Hp P h0 W0 γ (eL L) h) (hp : DR P (qd W0 γ (eL L) h) γ (eL L) h (enc p) v) (hx : DR P (qd W0 γ (eL L) h) γ (eL L) h (enc x) u) (e : (a3h P L t p x Ks).run = some z) :
  ∃ h' L', Q3 P t h v u = some h' ∧ Hp P h0 W0 γ (eL L') h' ∧ Carry W0 γ (eL L) h γ (eL L') h' ∧ (Ks L').run = some z := by
 unfold a3h at e
 first | (rw [qa] at e; split at e) | split at e
 ·rename_i id off
  first | (rw [qa] at e; split at e) | split at e
  ·rename_i cells hL
   first | (rw [qa] at e; split at e) | split at e
   ·rename_i hc
    obtain ⟨h', a, b, c⟩ := Jf (t := t) (L' := (eL L).set id (.st ((jf cells off (y1 x)).map qp))) H hp hx (by
     unfold Jc
     simp only [ahd, qX hL, ko]
     rw [Kw, Kj hc.1, List.length_map, List.length_map, if_pos hc, ZA])
    refine ⟨h', _, a, ?_, ?_, e⟩
    ·rw [Z7]; exact b
    ·rw [Z7]; exact c
   ·cases e
  ·cases e
 ·rename_i id i off tot
  cases hf : a9l P L x with
  | mk x' r =>
   obtain ⟨L1, q⟩ := r
   simp only [hf] at e
   first | (rw [qa] at e; split at e) | split at e
   ·rename_i c te loc xs hL
    first | (rw [qa] at e; split at e) | split at e
    ·rename_i hc
     first | (rw [qa] at e; split at e) | split at e
     ·rename_i ht
      replace e := ke e; obtain ⟨y, hy, e⟩ := e
      replace e := q8 e; obtain ⟨zz, hz, e⟩ := e
      replace e := zK e; obtain ⟨hq, e⟩ := e
      obtain ⟨⟨H1, c1⟩, hx1⟩ := v4 H hx hf hq
      have hp1 := c1.dr hp
      obtain ⟨ps, hps⟩ := a1V hc.2.2.2
      have hlen := hps.length
      obtain ⟨row, hr1, hr2⟩ := Vh hz
      have hrow : row = kU (qF c y) off ps := a6L hr1 (a53 off (U4 c y) hps)
      subst hrow
      obtain ⟨h', a, b, c2⟩ := Jf (t := t) (L' := (eL L1).set id (.li (eo loc te xs.length) ((xs.map (qF c)).set i (kU (qF c y) off ps)))) H1 hp1 hx1 (by
       unfold Jc
       simp only [ai7, qX hL, ko, List.length_map, if_pos ht, List.getElem?_map, hy, Option.map_some]
       rw [Kw, if_pos hc.1, Kj hc.1, u5 hps]
       simp only
       rw [if_pos ⟨by rw [← hlen]; exact hc.2.1, by rw [← hlen, kd]; exact hc.2.2.1⟩])
      have hlt : id < (eL L1).length := by rw [zA]; exact (List.getElem?_eq_some_iff.1 hL).1
      obtain ⟨b', c3⟩ := a37 b (id := id) (List.getElem?_set_self hlt) (aaU (c := c) (xs := xs) (i := i) (z := zz) hr2)
      rw [List.set_set] at b' c3
      have he : (eL L1).set id (.li (eo loc te xs.length) ((xs.set i zz).map (qF c))) = eL (L1.set id (.li c te loc (xs.set i zz))) := by rw [Z7]; simp [ko]
      rw [he] at b' c3
      exact ⟨h', _, a, b', (c1.trans' c2).trans' c3, e⟩
     ·cases e
    ·cases e
   ·cases e
 ·cases e
theorem vP {c : CT} : ∀ (ps : List (Nat × TV)) (rows out : List c.T) (drows : List (List PV)), All2 (All2 unP) (rows.map (qF c)) drows → Yl c rows ps = some out →
  ∃ dout, wN c.size drows (ps.map fun p => (p.1, enc p.2)) = some dout ∧ All2 (All2 unP) (out.map (qF c)) dout
 | [], rows, out, drows, hw, h => by cases h; exact ⟨drows, rfl, hw⟩
 | (i, d) :: r, rows, out, drows, hw, h => by
  unfold Yl at h
  simp only [List.map_cons, wN]
  first | (rw [qa] at h; split at h) | split at h
  ·rename_i hc
   first | (rw [qa] at h; split at h) | split at h
   ·rename_i y hy
    obtain ⟨ps, h1, h2⟩ := Vh hy
    have hl : i < drows.length := by rw [← hw.length]; simpa using hc.2
    rw [Kw, if_pos ⟨hc.1, hl⟩, Kj hc.1, u5 h1]
    simp only
    rw [if_pos (by rw [← h2.length, kd])]
    exact vP r _ _ _ (by rw [List.map_set]; exact hw.set h2 i) h
   ·cases h
  ·cases h
theorem Vu {ty : TypeId → Option CT} {t : TypeId} {len : Nat} {ps : List (Nat × TV)} {qs : List (Nat × Value)} (H : Hp P h0 W0 γ (eL L) h)
  (hr : All2 (fun d v => d.1 = v.1 ∧ DR P (qd W0 γ (eL L) h) γ (eL L) h d.2 v.2) (ps.map fun p => (p.1, enc p.2)) qs) (e : (WC P ty L t len ps K).run = some z) :
  ∃ q mk, j0 P t len qs = some (q, mk) ∧ J7 P h0 W0 γ L h K z (mk h.next) (h.push q) := by
 unfold WC at e
 first | (rw [qa] at e; split at e) | split at e
 ·rename_i te hu
  replace e := q8 e; obtain ⟨c, hc, e⟩ := e
  replace e := q8 e; obtain ⟨z0, hz0, e⟩ := e
  first | (rw [qa] at e; split at e) | split at e
  ·rename_i hcond
   cases hf : a2g P L ps with
   | mk ps' r =>
    obtain ⟨L1, q⟩ := r
    simp only [hf] at e
    replace e := q8 e; obtain ⟨rows, hrows, e⟩ := e
    replace e := zK e; obtain ⟨hq, e⟩ := e
    obtain ⟨⟨H1, c1⟩, hr1⟩ := xV H hr hf hq
    cases hzt : xZ P te with
    | none => rw [hzt] at hz0; cases hz0
    | some zc =>
     rw [hzt] at hz0
     obtain ⟨zr, q1, q2⟩ := Vh (show a5v c zc = some z0 from hz0)
     obtain ⟨dout, d1, d2⟩ := vP ps' (List.replicate len z0) rows (List.replicate len zr) (by
      rw [List.map_replicate]
      exact UN q2 len) hrows
     have hbs : jX P (eL L1) t len (ps'.map fun p => (p.1, enc p.2)) = some (.ref L1.length 0 len len, eL L1 ++ [.li (some te) dout]) := by
      unfold jX
      rw [hu]
      simp only [vM, hzt, Option.map_some, Option.bind_some, u5 q1, hcond.1]
      rw [if_pos ⟨by rw [← q2.length, kd], hcond.2.1, CT.size_pos c, hcond.2.2⟩, d1, zA]
     obtain ⟨qq, mk, m1, m2⟩ := ZC (K := fun d L' => d = .ref L1.length 0 len len ∧ L' = eL L1 ++ [.li (some te) dout]) H1 hr1 hbs ⟨rfl, rfl⟩
     refine ⟨qq, mk, m1, ?_⟩
     obtain ⟨γ', d, L', ⟨rfl, rfl⟩, a, b, d3⟩ := m2
     have hlt : L1.length < (eL L1 ++ [Obj.li (some te) dout]).length := by simp [zA]
     obtain ⟨b', c3⟩ := a37 a (id := L1.length) (e := some te) (rows := dout) (by simp [zA]) (.inr d2)
     have he : (eL L1 ++ [Obj.li (some te) dout]).set L1.length (.li (some te) (rows.map (qF c))) = eL (L1 ++ [.li c te true rows]) := by
      rw [jl, List.set_append_right _ _ (by rw [zA]; exact Nat.le_refl _)]
      simp [zA, ko, eo]
     rw [he] at b' c3
     exact ⟨γ', _, _, e, b', (c1.trans' b).trans' c3, c3.dr d3⟩
  ·cases e
 ·cases e
end
end Go.Sim
namespace Go.Sim
open Go.RowKit
section
variable {R : Type} {P : Program} {γ : Pl} {L : List TO} {h : Heap} {h0 : Heap} {W0 : Ent} {z : R} {K : TV → List TO → Tree R}
theorem zP {ρ : KB} {r : Rho} (hρ : xy P W0 γ (eL L) h (ZW ρ) r) {x : Operand} {d : TV} (e : ρ x = some d) : ∃ v, r x = some v ∧ DR P (qd W0 γ (eL L) h) γ (eL L) h (enc d) v := hρ x _ (by unfold ZW; rw [e]; rfl)
theorem qH {ρ : KB} {x : Operand} {d : TV} (e : ρ x = some d) : ZW ρ x = some (enc d) := by unfold ZW; rw [e]; rfl
theorem KT.mk {d : TV} {L' : List TO} (h : (K d L').run = some z) : KT K z (enc d) (eL L') := ⟨d, L', rfl, rfl, h⟩
theorem aaY {t x y : Bool} {d : DV} (hd : d = enc (.v (.bool (cond t x y)))) : W3 (some (.p (.v (.bool t)))) (some (.p (.v (.bool x)))) (some (.p (.v (.bool y)))) = some d := by
 subst hd; cases t <;> rfl
theorem abm {c a b : Option TV} {K : TV → Tree R} (h : (af0 c a b K).run = some z) : ∃ r, W3 (c.map enc) (a.map enc) (b.map enc) = some (enc r) ∧ (K r).run = some z := by
 unfold af0 at h
 first | (rw [qa] at h; split at h) | split at h
 ·rename_i t
  first | (rw [qa] at h; split at h) | split at h
  ·rename_i x y
   exact ⟨_, aaY rfl, h⟩
  ·rename_i a b hn
   cases t with
   | true =>
    replace h := q8 h; obtain ⟨r, h1, h2⟩ := h
    exact ⟨r, by subst h1; rfl, h2⟩
   | false =>
    replace h := q8 h; obtain ⟨r, h1, h2⟩ := h
    exact ⟨r, by subst h1; rfl, h2⟩
 ·cases h
theorem afE {S : Nat → Prop} {c : CT} {xs : List c.T} {op : BinOp} {t : TypeId} {b0 : Bool} (hop : (op = .eql ∧ b0 = true) ∨ (op = .neq ∧ b0 = false)) (ht : a6g P t = true) {v : Value} (hv : PR P S h (.sl c.size (xs.map (qF c))) v) :
  ∃ b, qS P op t v (.slice none 0 0) = some (.bool b) ∧ (b = b0 ∨ b = !b0) ∧ (xs.length ≠ 0 → b = !b0) := by
 unfold a6g at ht
 split at ht
 ·rename_i e hu
  have q1 : qS P op t (.slice none 0 0) (.slice none 0 0) = some (.bool b0) := by
   rcases hop with ⟨rfl, rfl⟩ | ⟨rfl, rfl⟩
   ·exact a4L hu
   ·exact a4Y hu
  have q2 : ∀ a n k, qS P op t (.slice (some a) n k) (.slice none 0 0) = some (.bool (!b0)) := by
   intro a n k
   rcases hop with ⟨rfl, rfl⟩ | ⟨rfl, rfl⟩
   ·exact acE hu a n k
   ·exact adV hu a n k
  generalize hrows : xs.map (qF c) = rows at hv
  have hl : xs.length = rows.length := by rw [← hrows, List.length_map]
  cases hv with
  | nil => exact ⟨b0, q1, .inl rfl, fun q => absurd hl q⟩
  | dud => exact ⟨!b0, q2 _ _ _, .inr rfl, fun _ => rfl⟩
  | zero => exact ⟨!b0, q2 _ _ _, .inr rfl, fun _ => rfl⟩
  | sl => exact ⟨!b0, q2 _ _ _, .inr rfl, fun _ => rfl⟩
 ·cases ht
theorem afB {op : BinOp} {x y : TV} (h : a3W op x y = true) : ∃ (c : CT) (xs : List c.T) (b0 : Bool), x = .sl c xs ∧ y = .v (.slice none 0 0) ∧ ((op = .eql ∧ b0 = true) ∨ (op = .neq ∧ b0 = false)) := by
 unfold a3W at h
 split at h
 ·exact ⟨_, _, true, rfl, rfl, .inl ⟨rfl, rfl⟩⟩
 ·exact ⟨_, _, false, rfl, rfl, .inr ⟨rfl, rfl⟩⟩
 ·cases h
theorem aec {n : Nat} {b0 b : Bool} {K : TV → Tree R} (h : (af3 n b0 K).run = some z) (hb : (b = b0 ∨ b = !b0) ∧ (n ≠ 0 → b = !b0)) : (K (.v (.bool b))).run = some z := by
 unfold af3 at h
 by_cases hn : n = 0
 ·subst hn
  have h' : bothM (K (.v (.bool b0))).run (K (.v (.bool (!b0)))).run = some z := h
  obtain ⟨h1, h2⟩ := a83 h'
  rcases hb.1 with rfl | rfl
  ·exact h1
  ·exact h2
 ·have h' : (match decide (n = 0) with
   | true => bothM (K (.v (.bool b0))).run (K (.v (.bool (!b0)))).run
   | false => (K (.v (.bool (!b0)))).run) = some z := h
  rw [decide_eq_false hn] at h'
  rw [hb.2 hn]; exact h'
theorem jJ {ty : TypeId → Option CT} {call : yc R} {wr : TWr} (hcall : TCallOk P call wr) {o : Op} {ρ : KB} {r : Rho} (H : Hp P h0 W0 γ (eL L) h) (hρ : xy P W0 γ (eL L) h (ZW ρ) r) (e : (vC P ty call o ρ L K).run = some z) : qy P o r h (J7 P h0 W0 γ L h K z) := by
 have go : zo P o (ZW ρ) (eL L) (KT K z) → qy P o r h (J7 P h0 W0 γ L h K z) := fun hd => Qy (fun v h' q => ads q) (ac5 H hρ hd)
 unfold vC at e
 first | (rw [qa] at e; split at e) | split at e
 ·replace e := q8 e; obtain ⟨d, h1, e⟩ := e
  refine go ?_
  unfold zo
  simp only [qH h1, qx]
  exact KT.mk e
 ·replace e := q8 e; obtain ⟨d, h1, e⟩ := e
  refine go ?_
  unfold zo
  simp only [qH h1, qx]
  exact KT.mk e
 ·obtain ⟨d, h1, h2⟩ := abm e
  refine go ?_
  unfold zo
  simp only
  unfold ZW
  rw [h1]
  exact KT.mk h2
 ·replace e := q8 e; obtain ⟨ds, h1, e⟩ := e
  replace e := q8 e; obtain ⟨d, h2, e⟩ := e
  refine go ?_
  unfold zo
  simp only [xd, h1, Option.map_some, qx, a7h h2]
  exact KT.mk e
 ·replace e := q8 e; obtain ⟨x, h1, e⟩ := e
  replace e := q8 e; obtain ⟨d, h2, e⟩ := e
  refine go ?_
  unfold zo
  simp only [qH h1, qx, a9c h2]
  exact KT.mk e
 ·replace e := q8 e; obtain ⟨x, h1, e⟩ := e
  replace e := q8 e; obtain ⟨k, h2, e⟩ := e
  obtain ⟨d, h3, h4⟩ := a3Y e
  refine go ?_
  unfold zo yO
  simp only [qH h1, qx, h2, h3]
  exact KT.mk h4
 ·replace e := q8 e; obtain ⟨x, h1, e⟩ := e
  replace e := q8 e; obtain ⟨v, h2, e⟩ := e
  replace e := q8 e; obtain ⟨d, h3, e⟩ := e
  refine go ?_
  unfold zo
  simp only [qH h1, qx, QT, h2, YY h3]
  exact KT.mk e
 ·rename_i op tt x0 y0 tr
  replace e := q8 e; obtain ⟨x, h1, e⟩ := e
  replace e := q8 e; obtain ⟨y, h2, e⟩ := e
  cases hn : a3W op x y with
  | true =>
   obtain ⟨c, xs, b0, rfl, rfl, hop⟩ := afB hn
   have e' : ∃ b0', b0' = b0 ∧ a6g P tt = true ∧ (af3 xs.length b0' fun d => K d L).run = some z := by
    rcases hop with ⟨rfl, rfl⟩ | ⟨rfl, rfl⟩
    ·unfold adv at e
     simp only at e
     split at e
     ·rename_i ht; exact ⟨_, rfl, ht, e⟩
     ·cases e
    ·unfold adv at e
     simp only at e
     split at e
     ·rename_i ht; exact ⟨_, rfl, ht, e⟩
     ·cases e
   obtain ⟨_, rfl, ht, e2⟩ := e'
   obtain ⟨v, r1, d1⟩ := zP hρ h1
   obtain ⟨u, r2, d2⟩ := zP hρ h2
   have hu : u = .slice none 0 0 := PR.scal (P := P) (S := qd W0 γ (eL L) h) (h := h) d2
   subst hu
   obtain ⟨b, q1, q2, q3⟩ := afE (P := P) (h := h) hop ht d1
   simp only [qy, qZ, r1, r2, q1]
   exact ⟨γ, .v (.bool b), L, aec e2 ⟨q2, q3⟩, H, Carry.refl _ _ _, PR.v rfl⟩
  | false =>
  obtain ⟨d, h3, h4⟩ := af4 hn e
  refine go ?_
  unfold zo
  simp only [qH h1, qH h2, qx, h3]
  exact KT.mk h4
 ·replace e := q8 e; obtain ⟨x, h1, e⟩ := e
  obtain ⟨d, L', h3, h4⟩ := aax e
  refine go ?_
  unfold zo
  simp only [qH h1, qx, h3]
  exact KT.mk h4
 ·replace e := q8 e; obtain ⟨d, h2, e⟩ := e
  refine go ?_
  unfold zo
  simp only [kO, qx, abw h2]
  exact KT.mk e
 ·replace e := q8 e; obtain ⟨x, h1, e⟩ := e
  replace e := q8 e; obtain ⟨y, h2, e⟩ := e
  obtain ⟨d, h3, h4⟩ := a0s e
  refine go ?_
  unfold zo
  simp only [qH h1, qH h2, qx, h3]
  exact KT.mk h4
 ·replace e := q8 e; obtain ⟨x, h1, e⟩ := e
  replace e := q8 e; obtain ⟨y, h2, e⟩ := e
  obtain ⟨d, h3, h4⟩ := a6m e
  refine go ?_
  unfold zo
  simp only [qH h1, qH h2, qx, h3]
  exact KT.mk h4
 ·replace e := q8 e; obtain ⟨x, h1, e⟩ := e
  replace e := q8 e; obtain ⟨d, h2, e⟩ := e
  refine go ?_
  unfold zo
  simp only [qH h1, qx, a3H h2]
  exact KT.mk e
 ·replace e := q8 e; obtain ⟨x, h1, e⟩ := e
  obtain ⟨d, h3, h4⟩ := a3Y e
  refine go ?_
  unfold zo a9I
  simp only [qH h1, qx, h3]
  exact KT.mk h4
 ·replace e := q8 e; obtain ⟨x, h1, e⟩ := e
  obtain ⟨d, h3, h4⟩ := Yb e
  refine go ?_
  unfold zo
  simp only [qH h1, qx, h3]
  exact KT.mk h4
 ·replace e := q8 e; obtain ⟨x, h1, e⟩ := e
  replace e := q8 e; obtain ⟨y, h2, e⟩ := e
  obtain ⟨v, r1, d1⟩ := zP hρ h1
  obtain ⟨u, r2, d2⟩ := zP hρ h2
  obtain ⟨h', L', a, b, c, hk⟩ := vH H d1 d2 e
  simp only [qy, r1, r2, a]
  exact ⟨γ, _, L', hk, b, c, ⟨#[], rfl, .nil⟩⟩
 ·replace e := q8 e; obtain ⟨x, h1, e⟩ := e
  replace e := q8 e; obtain ⟨lo, h2, e⟩ := e
  replace e := q8 e; obtain ⟨hi, h3, e⟩ := e
  obtain ⟨lv, l1, l2⟩ := a2X h2
  obtain ⟨hv, l3, l4⟩ := a2X h3
  obtain ⟨d, h4, h5⟩ := a86 l2 l4 e
  refine go ?_
  unfold zo
  simp only [qH h1, l1, l3, qx, a2o, h4]
  exact KT.mk h5
 ·replace e := q8 e; obtain ⟨x, h1, e⟩ := e
  first | (rw [qa] at e; split at e) | split at e
  ·rename_i hc
   refine go ?_
   unfold zo
   simp only [qH h1, qx]
   rw [Kw, Kj hc.1, List.length_map]
   refine ⟨hc.1, hc.2, _, _, ?_, ?_, e⟩
   ·rw [zA]; rfl
   ·rw [jl]; rfl
  ·cases e
 ·replace e := q8 e; obtain ⟨x, h1, e⟩ := e
  refine go ?_
  unfold zo
  simp only [vM, h1, Option.map_some, qx]
  refine ⟨_, _, ?_, ?_, e⟩
  ·rw [zA]; rfl
  ·rw [jl]; rfl
 ·replace e := q8 e; obtain ⟨ds, h1, e⟩ := e
  obtain ⟨vs, r1, d1⟩ := Zx hρ (ds := ds.map fun p => (p.1, enc p.2)) (by rw [xd, h1]; rfl)
  obtain ⟨q, mk, a, b⟩ := Vu H d1 e
  simp only [qy, w4, r1, a]
  exact b
 ·replace e := q8 e; obtain ⟨f, h1, e⟩ := e
  replace e := q8 e; obtain ⟨ds, h2, e⟩ := e
  first | (rw [qa] at e; split at e) | split at e
  ·rename_i k pre cap
   first | (rw [qa] at e; split at e) | split at e
   ·rename_i hb
    simp only [Bool.and_eq_true] at hb
    refine go ?_
    unfold zo
    simp only [qH h1, kO, h2, Option.map_some, qx]
    have := hcall.weak e
    rw [List.map_append, List.map_append, (yz hb.1).2, (yz hb.2).2] at this
    exact this
   ·cases e
  ·cases e
 ·replace e := q8 e; obtain ⟨ds, h1, e⟩ := e
  first | (rw [qa] at e; split at e) | split at e
  ·obtain ⟨d, L', h3, h4⟩ := X1 e
   refine go ?_
   unfold zo
   simp only [kO, h1, Option.map_some, qx, List.map_cons, List.map_nil, h3]
   exact KT.mk h4
  ·cases e
 ·replace e := q8 e; obtain ⟨ds, h1, e⟩ := e
  first | (rw [qa] at e; split at e) | split at e
  ·rename_i x t ht
   obtain ⟨d, h3, h4⟩ := a1u e
   refine go ?_
   unfold zo
   simp only [kO, h1, Option.map_some, qx, List.map_cons, List.map_nil, ht, h3]
   exact KT.mk h4
  ·cases e
 ·replace e := q8 e; obtain ⟨ds, h1, e⟩ := e
  replace e := q8 e; obtain ⟨vs, h2, e⟩ := e
  replace e := q8 e; obtain ⟨d, h3, e⟩ := e
  refine go ?_
  unfold zo
  simp only [kO, h1, Option.map_some, qx, v6, h2, YY h3]
  exact KT.mk e
 ·replace e := q8 e; obtain ⟨ds, h1, e⟩ := e
  replace e := q8 e; obtain ⟨vs, h2, e⟩ := e
  replace e := q8 e; obtain ⟨d, h3, e⟩ := e
  refine go ?_
  unfold zo
  simp only [kO, h1, Option.map_some, qx, v6, h2, YY h3]
  exact KT.mk e
 ·cases e
end
end Go.Sim
namespace Go.Sim
open Go.RowKit
def JY {R : Type} (n : Int) : Nat → (Nat → Tree R) → Tree R
 | 0, _ => .fail
 | m + 1, K => .cond (decide (n = (m : Int))) (K m) (JY n m K)
theorem j5 {R : Type} {z : R} {n : Int} : ∀ {m : Nat} {K : Nat → Tree R}, (JY n m K).run = some z → ∃ k, k < m ∧ n = k ∧ (K k).run = some z
 | 0, K, h => by cases h
 | m + 1, K, h => by
  unfold JY at h
  by_cases hn : n = (m : Int)
  ·rw [decide_eq_true hn] at h
   exact ⟨m, Nat.lt_succ_self m, hn, h⟩
  ·rw [decide_eq_false hn] at h
   obtain ⟨k, h1, h2, h3⟩ := j5 (m := m) h
   exact ⟨k, by omega, h2, h3⟩
section
variable {P : Program} {S : Nat → Prop} {h : Heap}
theorem PR.part {z b o c : Nat} {rows : List (List PV)} {cs : List Value} {te : TypeId} {rw : Bool} (hS : S b) (hg : h.get b = some (.cells cs te rw)) (h0z : 0 < z) (hl : o + rows.length * z ≤ cs.length)
  (hw : ∀ (i : Nat) (r : List PV), rows[i]? = some r → r.length = z)
  (hrr : ∀ (i : Nat) (r : List PV) (j : Nat) (x : PV) (u : Value), rows[i]? = some r → r[j]? = some x → cs[o + i * z + j]? = some u → PR P S h x u)
  (hm : rows.length ≤ maxLen) {l r : Nat} (hlr : l ≤ r) (hr : r ≤ rows.length) (hc : CapOk P c (r - l) rw te z) : PR P S h (.sl z ((rows.drop l).take (r - l))) (.slice (some ⟨b, o + l * z, none⟩) (r - l) c) := by
 have hlen : ((rows.drop l).take (r - l)).length = r - l := by simp; omega
 have hmul : r * z ≤ rows.length * z := Nat.mul_le_mul_right _ hr
 have hsub : (r - l) * z = r * z - l * z := Nat.sub_mul _ _ _
 have hlz : l * z ≤ r * z := Nat.mul_le_mul_right _ hlr
 have := PR.sl (P := P) (S := S) (h := h) (rows := (rows.drop l).take (r - l)) (b := b) (o := o + l * z) (c := c) (z := z) hS hg h0z (by rw [hlen, hsub]; omega)
  (fun i q e1 => by
   rw [List.getElem?_take] at e1
   split at e1
   ·rw [List.getElem?_drop] at e1; exact hw _ q e1
   ·cases e1)
  (fun i q j x u e1 e2 e3 => by
   rw [List.getElem?_take] at e1
   split at e1
   ·rw [List.getElem?_drop] at e1
    exact hrr (l + i) q j x u e1 e2 (by rw [← e3]; congr 1; rw [Nat.add_mul]; omega)
   ·cases e1) (by rw [hlen]; exact hc) (by rw [hlen]; omega)
 rw [hlen] at this
 exact this
theorem xq {z : Nat} {rows : List (List PV)} {v : Value} {t te : TypeId} {lo hi mx : Option Value} {l r : Nat} (hv : PR P S h (.sl z rows) v) (hu : P.underlying t = some (.slice te)) (hs : szT P te = some z) (hb : qz rows.length rows.length lo hi mx = some (l, r, some r)) :
  ∃ u, z5 P (qU P h) t v lo hi mx = some u ∧ ((l = r ∧ a7n u) ∨ (l < r ∧ CxV P S h z ((rows.drop l).take (r - l)) u)) := by
 have hdu : dud > maxLen := by decide
 have hun : unk > maxLen := by decide
 have hno : qB > maxLen := by decide
 have hnu : qB ≠ unk := by decide
 obtain ⟨_, hlr, hr, _⟩ := Qt (Nat.le_refl _) hb
 unfold z5
 simp only [hu]
 cases hv with
 | nil =>
  simp only [List.length_nil] at hb hr
  have : l = r := by omega
  simp only [hs, hb]
  exact ⟨_, rfl, .inl ⟨this, .inl rfl⟩⟩
 | dud =>
  simp only [List.length_nil] at hb hr
  have : l = r := by omega
  simp only [hs]
  rw [show qI 0 dud = 0 from by decide]
  simp only [hb, if_true]
  exact ⟨_, rfl, .inl ⟨this, .inr ⟨_, _, rfl⟩⟩⟩
 | @zero _ bz oz =>
  simp only [List.length_nil] at hb hr
  have hl0 : l = 0 := by omega
  have hr0 : r = 0 := by omega
  subst hl0 hr0
  simp only [hs]
  rw [show qI 0 0 = 0 from by decide]
  simp only [hb]
  rw [if_neg (by decide), if_neg (by simp)]
  exact ⟨.slice (some ⟨bz, oz, none⟩) 0 0, by simp, .inl ⟨trivial, .inr ⟨_, _, rfl⟩⟩⟩
 | sl hS hg h0z hl hw hrr hc hm =>
  rename_i b o c cs te' rw'
  have hcap : rows.length ≤ qI rows.length c := by
   unfold qI
   rcases hc with rfl | ⟨_, _, rfl | ⟨h1, h2⟩⟩
   ·rw [if_neg hnu, if_pos rfl]; exact Nat.le_refl _
   ·rw [if_pos rfl]; exact Nat.le_refl _
   ·rw [if_neg (by omega), if_neg (by omega), if_neg (by omega)]; exact h1
  have hbd := (Qt hcap hb).1
  simp only [hs, hbd]
  rw [if_neg hc.nodud]
  have hE : ¬ (c ≠ qB ∧ ¬ (rows.length = 0 ∧ c = 0) ∧ qU P h b ≠ some z) := by
   rintro ⟨h1, _, h2⟩
   rcases hc with rfl | ⟨rfl, h3, _⟩
   ·exact h1 rfl
   ·exact h2 (by unfold qU; rw [hg]; exact h3)
  rw [if_neg hE]
  by_cases hq : r = l
  ·rw [if_pos hq]
   exact ⟨_, rfl, .inl ⟨hq.symm, .inr ⟨_, _, by rw [hq, Nat.sub_self]⟩⟩⟩
  ·rw [if_neg hq]
   have hlt : l < r := by omega
   have hlen : ((rows.drop l).take (r - l)).length = r - l := by simp; omega
   have hne : (rows.drop l).take (r - l) ≠ [] := fun q => by rw [q] at hlen; simp at hlen; omega
   by_cases hcn : c = qB
   ·rw [if_pos ⟨hcn, trivial⟩]
    exact ⟨_, rfl, .inr ⟨hlt, hne, .inl ⟨_, rfl, rfl, PR.part hS hg h0z hl hw hrr hm hlr hr (.inl rfl)⟩⟩⟩
   ·rw [if_neg (fun q => hcn q.1), if_neg hcn]
    rcases hc with hc | ⟨h1, h2, h3⟩
    ·exact absurd hc hcn
    ·refine ⟨_, rfl, .inr ⟨hlt, hne, .inr ⟨b, o + l * z, by rw [hlen], ?_⟩⟩⟩
     exact PR.part hS hg h0z hl hw hrr hm hlr hr (.inr ⟨h1, h2, .inr ⟨Nat.le_refl _, by omega⟩⟩)
theorem Ur {v : Value} {t te : TypeId} {z : Nat} {lo hi mx : Option Value} {l r : Nat} (hv : a7n v) (hu : P.underlying t = some (.slice te)) (hs : szT P te = some z) (hb : qz 0 0 lo hi mx = some (l, r, some r)) : ∃ u, z5 P (qU P h) t v lo hi mx = some u ∧ a7n u := by
 obtain ⟨u, h1, h2⟩ : ∃ u, z5 P (qU P h) t v lo hi mx = some u ∧ ((l = r ∧ a7n u) ∨ (l < r ∧ CxV P (fun _ => False) h z (([] : List (List PV)).drop l |>.take (r - l)) u)) := by
  rcases hv with rfl | ⟨b, o, rfl⟩
  ·exact xq (z := z) (rows := []) .nil hu hs hb
  ·exact xq (z := z) (rows := []) .zero hu hs hb
 refine ⟨u, h1, ?_⟩
 rcases h2 with ⟨_, h2⟩ | ⟨_, h2, _⟩
 ·exact h2
 ·exact absurd (by simp) h2
end
section
variable {P : Program} {γ : Pl} {L : List Obj} {h : Heap} {h0 : Heap} {W0 : Ent}
theorem xE (H : Hp P h0 W0 γ L h) {v : Value} (hv : a7n v) : Hp P h0 W0 γ (L ++ [.li none []]) h ∧ Carry W0 γ L h γ (L ++ [.li none []]) h ∧ DR P (qd W0 γ (L ++ [.li none []]) h) γ (L ++ [.li none []]) h (.ref L.length 0 0 0) v := by
 have hno : γ L.length = none := by
  cases hq : γ L.length with
  | none => rfl
  | some x => have := H.dom _ _ hq; omega
 have h1 : v.oneCell' = true := by rcases hv with rfl | ⟨_, _, rfl⟩ <;> rfl
 refine ⟨H.virtual rfl ⟨rfl, hno⟩, ZI _ rfl, by simp, h1, fun o rs e1 e2 => ?_⟩
 simp at e1
 subst e1
 cases e2
 exact ⟨Nat.le_refl _, fun _ => ⟨by omega, fun z _ => .inl ⟨hv, rfl, hno⟩⟩⟩
theorem abi (H : Hp P h0 W0 γ L h) {t t2 te : TypeId} {i : TypeInfo} {zc : List Value} {rows ys : List (List PV)} {x : DV} {v w : Value} (hu : P.underlying t = some (.slice te)) (hi : P.info? te = some i) (hz : qY P te = some zc)
  (hv : CxV P (qd W0 γ L h) h i.size rows v) (hx : DR P (qd W0 γ L h) γ L h x w) (hy : a2y P L i.size t2 x = some ys) (h0z : 0 < i.size) (c1 : rows.length + ys.length ≤ maxLen) (c2 : (rows.length + ys.length) * i.bytes ≤ 140737488355328) :
  (ys = [] ∧ jq P [t, t2] h v w = some (v, h)) ∨ (0 < ys.length ∧ ∃ cs, jq P [t, t2] h v w = some (qr (rows.length + ys.length) unk h.next, h.push (.cells cs te true)) ∧
   ∃ γ', Hp P h0 W0 γ' (L ++ [.li (some te) (rows ++ ys)]) (h.push (.cells cs te true)) ∧ Carry W0 γ L h γ' (L ++ [.li (some te) (rows ++ ys)]) (h.push (.cells cs te true)) ∧
   DR P (qd W0 γ' (L ++ [.li (some te) (rows ++ ys)]) (h.push (.cells cs te true))) γ' (L ++ [.li (some te) (rows ++ ys)]) (h.push (.cells cs te true)) (.ref L.length 0 (rows.length + ys.length) (rows.length + ys.length)) (qr (rows.length + ys.length) unk h.next)) := by
 obtain ⟨cs, hsrc, hf⟩ := yk H hx hy
 have hsz : szT P te = some i.size := by unfold szT; rw [hi]; rfl
 obtain ⟨hne, hcx⟩ := hv
 have hun : unk > maxLen := by decide
 have hno : qB > maxLen := by decide
 have hdu : dud > maxLen := by decide
 have hpos : 0 < rows.length := List.length_pos_iff.2 hne
 by_cases h0y : ys.length = 0
 ·left
  have hys : ys = [] := List.length_eq_zero_iff.1 h0y
  refine ⟨hys, ?_⟩
  subst hys
  unfold jq
  simp only [hu, hi, hz, hsrc]
  rcases hcx with ⟨u, rfl, h1, hp⟩ | ⟨b, o, rfl, hp⟩
  ·unfold a0u
   cases hp with
   | nil => exact absurd rfl hne
   | dud => exact absurd rfl hne
   | zero => exact absurd rfl hne
   | sl => simp [Jn]
  ·simp
 ·right
  refine ⟨by omega, ?_⟩
  have old : ∀ {u : Value}, PR P (qd W0 γ L h) h (.sl i.size rows) u → ∃ b o c cs0 e' rw, u = .slice (some ⟨b, o, none⟩) rows.length c ∧ h.get b = some (.cells cs0 e' rw) ∧ o + rows.length * i.size ≤ cs0.length ∧ FlatR P (qd W0 γ L h) h i.size rows ((cs0.drop o).take (rows.length * i.size)) ∧ CapOk P c rows.length rw e' i.size := by
   intro u hp
   cases hp with
   | nil => exact absurd rfl hne
   | dud => exact absurd rfl hne
   | zero => exact absurd rfl hne
   | sl hS hg h0' hl hw hrr hc hm =>
    rename_i b o c cs0 e' rw'
    have hfl := WN (P := P) (h := h) (S := qd W0 γ L h) (cs := cs0) (o := o) (z := i.size) (rows := rows) (lo := 0) (n := rows.length) hl (fun r hr => by obtain ⟨k, hk⟩ := List.mem_iff_getElem?.1 hr; exact hw k r hk) (by omega) hrr
    simp only [List.drop_zero, List.take_length, Nat.zero_mul, Nat.add_zero] at hfl
    exact ⟨b, o, c, cs0, e', rw', rfl, hg, hl, hfl, hc⟩
  have fin : ∀ {cs1 : List Value}, FlatR P (qd W0 γ L h) h i.size rows cs1 → ∃ γ', Hp P h0 W0 γ' (L ++ [.li (some te) (rows ++ ys)]) (h.push (.cells (cs1 ++ cs) te true)) ∧ Carry W0 γ L h γ' (L ++ [.li (some te) (rows ++ ys)]) (h.push (.cells (cs1 ++ cs) te true)) ∧
   DR P (qd W0 γ' (L ++ [.li (some te) (rows ++ ys)]) (h.push (.cells (cs1 ++ cs) te true))) γ' (L ++ [.li (some te) (rows ++ ys)]) (h.push (.cells (cs1 ++ cs) te true)) (.ref L.length 0 (rows.length + ys.length) (rows.length + ys.length)) (qr (rows.length + ys.length) unk h.next) := by
   intro cs1 hf1
   have hff := hf1.append hf
   have hl2 : (rows ++ ys).length = rows.length + ys.length := List.length_append
   obtain ⟨γ', a1, a2, a3⟩ := Uw H (te := te) (c := unk) hsz h0z (rows := rows ++ ys) (by rw [hff.len]; exact Nat.le_refl _) (by rw [hl2]; exact c1) hff.wide hff.get (.inl rfl)
   rw [hl2] at a3
   exact ⟨γ', a1, a2, a3⟩
  unfold jq
  simp only [hu, hi, hz, hsrc]
  rcases hcx with ⟨u, rfl, h1, hp⟩ | ⟨b, o, rfl, hp⟩
  ·obtain ⟨b, o, c, cs0, e', rw', rfl, hg, hl, hfl, hc⟩ := old hp
   refine ⟨(cs0.drop o).take (rows.length * i.size) ++ cs, ?_, fin hfl⟩
   unfold a0u
   simp only [Jn, List.size_toArray, List.length_cons, List.length_nil, Nat.reduceAdd, if_true, List.getElem?_toArray, List.getElem?_cons_zero]
   rw [if_neg h0y, if_pos ⟨c1, c2⟩]
   simp only [hg]
   rw [if_pos ⟨hl, hpos⟩]
  ·obtain ⟨b', o', c, cs0, e', rw', heq, hg, hl, hfl, hc⟩ := old hp
   cases heq
   refine ⟨(cs0.drop o).take (rows.length * i.size) ++ cs, ?_, fin hfl⟩
   have hlm : rows.length ≤ maxLen := by omega
   rcases hc with hc | ⟨r1, r2, r3⟩
   ·omega
   simp only
   rw [if_neg h0y, if_neg (by omega), if_pos ⟨c1, c2⟩, if_neg (by omega)]
   simp only [hg]
   rw [if_pos ⟨hl, .inl ⟨by omega, by omega⟩⟩, if_pos ⟨by omega, by omega⟩]
end
end Go.Sim
namespace Go.Sim
open Go.RowKit
section
variable {R : Type}
def a2J (P : Program) (ty : TypeId → Option CT) (L : List TO) (t : TypeId) (x : TV) (lo : Option Int) (hi mx : Int) (K : TV → List TO → Tree R) : Tree R :=
 match P.underlying t with
 | some (.slice e) => match x with
  | .sl c xs => if szT P e = some c.size then tif (0 ≤ lo.getD 0 ∧ lo.getD 0 ≤ hi ∧ hi = mx ∧ mx.toNat ≤ xs.length) (.cond (decide (lo.getD 0 = hi)) (K (.ref L.length 0) (L ++ [.li c e false []])) (K (.slx c ((xs.drop (lo.getD 0).toNat).take (hi.toNat - (lo.getD 0).toNat))) L)) else .fail
  | .v (.slice none 0 0) => ql (ty e) fun c => if szT P e = some c.size then tif (lo.getD 0 = 0 ∧ hi = 0 ∧ mx = 0) (K (.ref L.length 0) (L ++ [.li c e false []])) else .fail
  | .ref id tot => match L[id]? with
   | some (.li c e' loc xs) => if szT P e = some c.size ∧ e' = e then tif (xs.length = tot ∧ 0 ≤ lo.getD 0 ∧ lo.getD 0 ≤ hi ∧ hi = mx ∧ mx.toNat ≤ xs.length) (.cond (decide (lo.getD 0 = hi)) (K (.ref L.length 0) (L ++ [.li c e false []])) (.cond (decide (lo.getD 0 = 0 ∧ hi = tot)) (K (.ref id tot) L) (K (.slx c ((xs.drop (lo.getD 0).toNat).take (hi.toNat - (lo.getD 0).toNat))) (L.set id (.fz c e' loc xs))))) else .fail
   | some (.fz c e' loc xs) => if szT P e = some c.size ∧ e' = e then tif (xs.length = tot ∧ 0 ≤ lo.getD 0 ∧ lo.getD 0 ≤ hi ∧ hi = mx ∧ mx.toNat ≤ xs.length) (.cond (decide (lo.getD 0 = hi)) (K (.ref L.length 0) (L ++ [.li c e false []])) (K (.slx c ((xs.drop (lo.getD 0).toNat).take (hi.toNat - (lo.getD 0).toNat))) L)) else .fail
   | _ => .fail
  | _ => .fail
 | _ => .fail
variable {P : Program} {γ : Pl} {L : List TO} {h : Heap} {h0 : Heap} {W0 : Ent} {z : R} {K : TV → List TO → Tree R}
theorem K2 {n : Int} {v : Option Value} (h : BdV (some n) v) : ∃ k, v = some (.int k n) := by
 unfold BdV at h
 cases v with
 | none => cases h
 | some x =>
  cases x <;> first | (exact ⟨_, by rw [show _ = n from h]⟩) | (cases h)
theorem WQ {k : IntKind} {n : Int} (h : 0 ≤ n) : jb (.int k n) = some n.toNat := by
 show (if 0 ≤ n then some n.toNat else none) = _
 rw [if_pos h]
theorem XX {lo : Option Int} {hi mx : Int} {n : Nat} {vl vh vm : Option Value} (b1 : BdV lo vl) (b2 : BdV (some hi) vh) (b3 : BdV (some mx) vm) (c1 : 0 ≤ lo.getD 0) (c2 : lo.getD 0 ≤ hi) (c3 : hi = mx) (c4 : mx.toNat ≤ n) :
  qz n n vl vh vm = some ((lo.getD 0).toNat, hi.toNat, some hi.toNat) := by
 subst c3
 obtain ⟨k2, rfl⟩ := K2 b2
 obtain ⟨k3, rfl⟩ := K2 b3
 unfold qz
 simp only [WQ (show 0 ≤ hi by omega)]
 rw [if_pos ⟨c4, Nat.le_refl _⟩]
 cases lo with
 | none =>
  cases vl with
  | none => rfl
  | some _ => cases b1
 | some l =>
  obtain ⟨k1, rfl⟩ := K2 b1
  simp only [Option.getD_some] at c1 c2 ⊢
  simp only [WQ c1]
  rw [if_pos (by omega)]
theorem afC (c : CT) (xs : List c.T) : enc (.slx c xs) = .cx c.size (xs.map (qF c)) := rfl
theorem a0Q {ty : TypeId → Option CT} {t : TypeId} {x : TV} {lo : Option Int} {hi mx : Int} {vl vh vm : Option Value} {v : Value} (H : Hp P h0 W0 γ (eL L) h) (hx : DR P (qd W0 γ (eL L) h) γ (eL L) h (enc x) v) (b1 : BdV lo vl) (b2 : BdV (some hi) vh) (b3 : BdV (some mx) vm)
  (e : (a2J P ty L t x lo hi mx K).run = some z) : ∃ u, z5 P (qU P h) t v vl vh vm = some u ∧ J7 P h0 W0 γ L h K z u h := by
 unfold a2J at e
 split at e
 case h_2 => cases e
 rename_i te hu
 have empty : ∀ {c : CT} {u : Value}, a7n u → (K (.ref L.length 0) (L ++ [.li c te false []])).run = some z → J7 P h0 W0 γ L h K z u h := by
  intro c u hn hk
  obtain ⟨a1, a2, a3⟩ := xE H hn
  rw [show ([Obj.li none []] : List Obj) = [ko (TO.li c te false [])] from rfl, ← jl] at a1 a2
  refine ⟨γ, _, _, hk, a1, a2, ?_⟩
  have : enc (.ref L.length 0) = .ref (eL L).length 0 0 0 := by rw [zA]; rfl
  rw [this, jl]
  exact a3
 have main : ∀ {c : CT} {xs : List c.T} {v : Value} {L' : List TO}, Hp P h0 W0 γ (eL L') h → Carry W0 γ (eL L) h γ (eL L') h → PR P (qd W0 γ (eL L') h) h (.sl c.size (xs.map (qF c))) v → szT P te = some c.size →
   0 ≤ lo.getD 0 → lo.getD 0 ≤ hi → hi = mx → mx.toNat ≤ xs.length → (Tree.cond (decide (lo.getD 0 = hi)) (K (.ref L.length 0) (L ++ [.li c te false []])) (K (.slx c ((xs.drop (lo.getD 0).toNat).take (hi.toNat - (lo.getD 0).toNat))) L')).run = some z →
   ∃ u, z5 P (qU P h) t v vl vh vm = some u ∧ J7 P h0 W0 γ L h K z u h := by
  intro c xs v L' H' cc hp hs c1 c2 c3 c4 hk
  have hb := XX (n := (xs.map (qF c)).length) b1 b2 b3 c1 c2 c3 (by simpa using c4)
  obtain ⟨u, s1, s2⟩ := xq hp hu hs hb
  refine ⟨u, s1, ?_⟩
  rcases s2 with ⟨q1, q2⟩ | ⟨q1, q2⟩
  ·rw [decide_eq_true (show lo.getD 0 = hi by omega)] at hk
   exact empty q2 hk
  ·rw [decide_eq_false (show ¬ lo.getD 0 = hi by omega)] at hk
   refine ⟨γ, _, _, hk, H', cc, ?_⟩
   rw [afC, List.map_take, List.map_drop]
   exact q2
 split at e
 ·rename_i c xs
  split at e
  ·rename_i hs
   rw [qa] at e
   split at e
   ·rename_i hc
    exact main H (Carry.refl _ _ _) hx hs hc.1 hc.2.1 hc.2.2.1 hc.2.2.2 e
   ·cases e
  ·cases e
 ·replace e := q8 e; obtain ⟨c, hc, e⟩ := e
  split at e
  ·rename_i hs
   rw [qa] at e
   split at e
   ·rename_i hq
    obtain ⟨q1, rfl, rfl⟩ := hq
    have : v = .slice none 0 0 := PR.scal (P := P) (S := qd W0 γ (eL L) h) (h := h) hx
    subst this
    have hb := XX (n := 0) b1 b2 b3 (by omega) (by omega) rfl (by simp)
    rw [show (lo.getD 0).toNat = 0 by omega] at hb
    obtain ⟨u, s1, s2⟩ := Ur (P := P) (h := h) (.inl rfl) hu hs hb
    exact ⟨u, s1, empty s2 e⟩
   ·cases e
  ·cases e
 ·rename_i id tot
  have hnone : ∀ {c : CT} {loc : Bool} {xs : List c.T} {q : TO}, L[id]? = some q → (q = .li c te loc xs ∨ q = .fz c te loc xs) → xs.length = tot → szT P te = some c.size → lo.getD 0 = hi → 0 ≤ lo.getD 0 → hi = mx → mx.toNat ≤ xs.length → (K (.ref L.length 0) (L ++ [.li c te false []])).run = some z →
    ∃ u, z5 P (qU P h) t v vl vh vm = some u ∧ J7 P h0 W0 γ L h K z u h := by
   intro c loc xs q hq hqq ht hs q1 q2 q3 q4 hk
   have hdu : dud > maxLen := by decide
   have hun : unk > maxLen := by decide
   have hno : qB > maxLen := by decide
   have hil : (ko q).isList (xs.map (qF c)) := by rcases hqq with rfl | rfl <;> exact rfl
   obtain ⟨k1, k2, k3⟩ := (show DB P (qd W0 γ (eL L) h) γ (eL L) h (.ref id 0 tot tot) v from hx)
   obtain ⟨m1, m2⟩ := k3 _ _ (qX hq) hil
   obtain ⟨m3, m4⟩ := m2 (by simpa using ht)
   have hb := XX (n := tot) b1 b2 b3 q2 (by omega) q3 (by omega)
   have hb0 : (lo.getD 0).toNat = hi.toNat := by omega
   rcases m4 c.size (fun r hr => by obtain ⟨w, _, rfl⟩ := List.mem_map.1 hr; exact kd c w) with ⟨hv, t0, _⟩ | ⟨_, _, _, hv, n0, t0⟩ | ⟨b, o, cp, g, hv, d1, d2, d3⟩
   ·subst t0
    obtain ⟨u, s1, s2⟩ := Ur (P := P) (h := h) hv hu hs hb
    exact ⟨u, s1, empty s2 hk⟩
   ·omega
   ·subst hv
    have hO := H.obj id _ (qX hq)
    have hrows : ∃ cs, h.get b = some (.cells cs te true) := by
     rcases hqq with rfl | rfl
     ·have hO' : OR P (qd W0 γ (eL L) h) γ (eL L) h id (.li (eo loc te xs.length) (xs.map (qF c))) := hO
      cases he : eo loc te xs.length with
      | none => rw [he] at hO'; rw [hO'.2] at g; cases g
      | some te' =>
       rw [he] at hO'
       obtain ⟨b', o', g', cs, zz, r1, _⟩ := hO'
       rw [g] at g'; cases g'
       have : te' = te := by
        unfold eo at he
        split at he
        ·cases he; rfl
        ·split at he
         ·cases he
         ·cases he; rfl
       subst this
       exact ⟨cs, r1⟩
     ·have hO' : OR P (qd W0 γ (eL L) h) γ (eL L) h id (.fz (eo loc te xs.length) (xs.map (qF c))) := hO
      cases he : eo loc te xs.length with
      | none => rw [he] at hO'; rw [hO'.2] at g; cases g
      | some te' =>
       rw [he] at hO'
       obtain ⟨b', o', g', _, cs, zz, r1, _⟩ := hO'
       rw [g] at g'; cases g'
       have : te' = te := by
        unfold eo at he
        split at he
        ·cases he; rfl
        ·split at he
         ·cases he
         ·cases he; rfl
       subst this
       exact ⟨cs, r1⟩
    obtain ⟨cs, r1⟩ := hrows
    have hcap : tot ≤ qI tot cp := by
     unfold qI
     rcases d3 with rfl | ⟨h1, h2⟩
     ·rw [if_pos rfl]; exact Nat.le_refl _
     ·rw [if_neg (by omega), if_neg (by omega), if_neg (by omega)]; exact h1
    obtain ⟨hbd, _, _, _⟩ := Qt hcap hb
    unfold z5
    simp only [hu, hs, hbd]
    rw [if_neg d1, if_neg (by rintro ⟨_, _, q⟩; exact q (by unfold qU; rw [r1]; exact hs)), if_pos hb0.symm]
    exact ⟨_, rfl, empty (.inr ⟨_, _, by rw [hb0, Nat.sub_self]⟩) hk⟩
  split at e
  ·rename_i c e' loc xs hL
   split at e
   ·rename_i hc
    obtain ⟨hs, rfl⟩ := hc
    rw [qa] at e
    split at e
    ·rename_i hq
     obtain ⟨q0, q1, q2, q3, q4⟩ := hq
     by_cases hlh : lo.getD 0 = hi
     ·rw [decide_eq_true hlh] at e
      exact hnone hL (.inl rfl) q0 hs hlh q1 q3 q4 e
     ·have hi' : (eL L)[id]? = some (.li (eo loc e' xs.length) (xs.map (qF c))) := qX hL
      obtain ⟨H', cc⟩ := VQ H hi'
      rw [show (eL L).set id (.fz (eo loc e' xs.length) (xs.map (qF c))) = eL (L.set id (.fz c e' loc xs)) from (Z7 L id (.fz c e' loc xs)).symm] at H' cc
      have hlt : id < L.length := (List.getElem?_eq_some_iff.1 hL).1
      have hp : PR P (qd W0 γ (eL (L.set id (.fz c e' loc xs))) h) h (.sl c.size (xs.map (qF c))) v :=
       a3U H' (e := eo loc e' xs.length) (rows := xs.map (qF c)) (tot := tot) (qX (by rw [List.getElem?_set_self hlt])) (by simpa using q0) (U1 hs) (cc.dc (d := .ref id 0 tot tot) hx)
      rw [decide_eq_false hlh] at e
      replace e : (Tree.cond (decide (lo.getD 0 = 0 ∧ hi = (tot : Int))) (K (.ref id tot) L) (K (.slx c ((xs.drop (lo.getD 0).toNat).take (hi.toNat - (lo.getD 0).toNat))) (L.set id (.fz c e' loc xs)))).run = some z := e
      by_cases h0t : lo.getD 0 = 0 ∧ hi = (tot : Int)
      ·rw [decide_eq_true h0t] at e
       obtain ⟨t1, t2⟩ := h0t
       have hb := XX (n := tot) b1 b2 b3 q1 q2 q3 (by omega)
       have hpos : 0 < tot := by omega
       have hro : zw (eL L) id tot = some (xs.map (qF c)) := by
        unfold zw
        rw [hi']
        simp only
        rw [if_pos (by simpa using q0)]
       have hlt' : ((eL L)[id]?.bind y2).bind (szT P) = some c.size := by
        rw [hi']
        show (eo loc e' xs.length).bind (szT P) = _
        have : eo loc e' xs.length = some e' := by
         unfold eo
         cases loc
         ·rw [if_neg (by decide), if_neg (by omega)]
         ·rfl
        rw [this]
        exact hs
       have hd : wj P (eL L) t (.ref id 0 tot tot) vl vh vm = some (.ref id 0 tot tot) := by
        unfold wj
        simp only [hu, hs, hro, hb, hlt']
        rw [if_pos ⟨trivial, hpos⟩]
        have e1 : (lo.getD 0).toNat = 0 := by omega
        have e2 : hi.toNat = tot := by omega
        rw [e1, e2]
        rfl
       obtain ⟨u, u1, u2⟩ := Qr H (x := .ref id 0 tot tot) hx hd
       exact ⟨u, u1, γ, _, _, e, H, Carry.refl _ _ _, u2⟩
      ·rw [decide_eq_false h0t] at e
       refine main H' cc hp hs q1 q2 q3 q4 ?_
       rw [decide_eq_false hlh]
       exact e
    ·cases e
   ·cases e
  ·rename_i c e' loc xs hL
   split at e
   ·rename_i hc
    obtain ⟨hs, rfl⟩ := hc
    rw [qa] at e
    split at e
    ·rename_i hq
     obtain ⟨q0, q1, q2, q3, q4⟩ := hq
     by_cases hlh : lo.getD 0 = hi
     ·rw [decide_eq_true hlh] at e
      exact hnone hL (.inr rfl) q0 hs hlh q1 q3 q4 e
     ·have hp : PR P (qd W0 γ (eL L) h) h (.sl c.size (xs.map (qF c))) v :=
       a3U H (e := eo loc e' xs.length) (rows := xs.map (qF c)) (tot := tot) (qX hL) (by simpa using q0) (U1 hs) hx
      exact main H (Carry.refl _ _ _) hp hs q1 q2 q3 q4 e
    ·cases e
   ·cases e
  ·cases e
 ·cases e
end
end Go.Sim
namespace Go.Sim
open Go.RowKit
section
variable {R : Type}
def aeq (P : Program) (ts : List TypeId) (L : List TO) (c : CT) (xs : List c.T) (x : TV) (K : TV → List TO → Tree R) : Tree R :=
 match ts with
 | [t, t2] => match P.underlying t with
  | some (.slice e) => ql (P.info? e) fun i => ql (qY P e) fun _ => if c.size = i.size ∧ 0 < i.bytes then
    a6v P L c t2 x fun ys => tif (xs.length + ys.length ≤ lim i.bytes) (.cond (decide (ys.length = 0)) (K (.slx c xs) L) (K (.ref L.length (xs.length + ys.length)) (L ++ [.li c e false (xs ++ ys)])))
   else .fail
  | _ => .fail
 | _ => .fail
def adX (P : Program) (ty : TypeId → Option CT) (L : List TO) (t : TypeId) (a b : Int) (K : TV → List TO → Tree R) : Tree R :=
 match P.underlying t with
 | some (.slice e) => ql (ty e) fun c => ql ((xZ P e).bind (a5v c)) fun zz => ql (P.info? e) fun i => if c.size = i.size ∧ 0 < i.bytes then
   tif (0 ≤ a ∧ a = b ∧ a.toNat ≤ lim i.bytes) (K (.ref L.length a.toNat) (L ++ [.li c e true (List.replicate a.toNat zz)])) else .fail
 | _ => .fail
def ahi (c : CT) : Nat → Nat → List c.T → List TV → (List TV → Tree R) → Tree R
 | 0, _, _, cells, K => K cells
 | n + 1, off, ys, cells, K => Wx ys[0]? fun y => ahi c n (off + 1) (ys.drop 1) (jf cells off (tvC c y)) K
def acK (P : Program) (ty : TypeId → Option CT) (L : List TO) (ts : List TypeId) (d x : TV) (K : TV → List TO → Tree R) : Tree R :=
 match ts with
 | [t, t2] => match P.underlying t with
  | some (.slice e) => match d with
   | .v (.slice none 0 0) => ql (ty e) fun c => if szT P e = some c.size then a6v P L c t2 x fun ys => tif (ys.length = 0) (K (.v (goInt (0 : Nat))) L) else .fail
   | .ref id tot => match L[id]? with
    | some (.li c e' loc xs) => if szT P e = some c.size ∧ e' = e then a6v P L c t2 x fun ys => tif (xs.length = tot ∧ ys.length ≤ tot) (K (.v (goInt ys.length)) (L.set id (.li c e loc (ys ++ xs.drop ys.length)))) else .fail
    | _ => .fail
   | .aref id off n => match L[id]? with
    | some (.st cells) => ql (ty e) fun c => if szT P e = some c.size ∧ c.size = 1 ∧ off + n ≤ cells.length then a6v P L c t2 x fun ys =>
      JY (ys.length : Int) (n + 1) fun k => ahi c k off ys cells fun cells' => K (.v (goInt k)) (L.set id (.st cells')) else .fail
    | _ => .fail
   | _ => .fail
  | _ => .fail
 | _ => .fail
variable {P : Program} {γ : Pl} {L : List TO} {h : Heap} {h0 : Heap} {W0 : Ent} {z : R} {K : TV → List TO → Tree R}
theorem u7 (id tot : Nat) : enc (.ref id tot) = .ref id 0 tot tot := rfl
theorem Xp {ts : List TypeId} {c : CT} {xs : List c.T} {x : TV} {v w : Value} (H : Hp P h0 W0 γ (eL L) h) (hv : DR P (qd W0 γ (eL L) h) γ (eL L) h (enc (.slx c xs)) v) (hx : DR P (qd W0 γ (eL L) h) γ (eL L) h (enc x) w)
  (e : (aeq P ts L c xs x K).run = some z) : ∃ u h', jq P ts h v w = some (u, h') ∧ J7 P h0 W0 γ L h K z u h' ∧ ∀ b, b < h.next → h'.get b = h.get b := by
 unfold aeq at e
 split at e
 case h_2 => cases e
 rename_i t t2
 split at e
 case h_2 => cases e
 rename_i te hu
 replace e := q8 e; obtain ⟨i, hi, e⟩ := e
 replace e := q8 e; obtain ⟨zc, hz, e⟩ := e
 split at e
 case isFalse => cases e
 rename_i hsz
 replace e := Z6 e; obtain ⟨ys, hy, e⟩ := e
 rw [qa] at e
 split at e
 case isFalse => cases e
 rename_i hl
 obtain ⟨l1, l2⟩ := a32 hl hsz.2
 have h0z : 0 < i.size := by rw [← hsz.1]; exact CT.size_pos c
 rw [hsz.1] at hy
 have hcx : CxV P (qd W0 γ (eL L) h) h i.size (xs.map (qF c)) v := by rw [← hsz.1]; exact hv
 rcases abi H hu hi hz hcx hx hy h0z (by simpa using l1) (by simpa using l2) with ⟨hys, ha⟩ | ⟨hpos, cs, ha, γ', a1, a2, a3⟩
 ·have : ys.length = 0 := by have := congrArg List.length hys; simpa using this
  rw [decide_eq_true this] at e
  exact ⟨v, h, ha, ⟨γ, _, _, e, H, Carry.refl _ _ _, hv⟩, fun _ _ => rfl⟩
 ·rw [decide_eq_false (by simp at hpos; omega)] at e
  refine ⟨_, _, ha, ⟨γ', _, _, e, ?_, ?_, ?_⟩, fun b hb => Heap.get_push_ne _ _ (by omega)⟩
  all_goals
   have hO : ko (.li c te false (xs ++ ys)) = .li (some te) (xs.map (qF c) ++ ys.map (qF c)) := by
    show Obj.li (eo false te (xs ++ ys).length) _ = _
    have : eo false te (xs ++ ys).length = some te := by
     unfold eo
     rw [if_neg (by decide), if_neg (by rw [List.length_append]; rw [List.length_map] at hpos; omega)]
    rw [this, List.map_append]
  ·rw [jl, hO]; exact a1
  ·rw [jl, hO]; exact a2
  ·rw [jl, hO, u7, ← zA L]
   simpa using a3
theorem a57 {ty : TypeId → Option CT} {t : TypeId} {a b : Int} {ka kb : IntKind} (H : Hp P h0 W0 γ (eL L) h) (e : (adX P ty L t a b K).run = some z) :
  ∃ q mk, Z4 P t (.int ka a) (.int kb b) = some (q, mk) ∧ J7 P h0 W0 γ L h K z (mk h.next) (h.push q) := by
 unfold adX at e
 split at e
 case h_2 => cases e
 rename_i te hu
 replace e := q8 e; obtain ⟨c, hc, e⟩ := e
 replace e := q8 e; obtain ⟨z0, hz0, e⟩ := e
 replace e := q8 e; obtain ⟨i, hi, e⟩ := e
 split at e
 case isFalse => cases e
 rename_i hsz
 rw [qa] at e
 split at e
 case isFalse => cases e
 rename_i hq
 obtain ⟨q1, rfl, q3⟩ := hq
 obtain ⟨l1, l2⟩ := a32 q3 hsz.2
 have h0z : 0 < i.size := by rw [← hsz.1]; exact CT.size_pos c
 cases hzt : xZ P te with
 | none => rw [hzt] at hz0; cases hz0
 | some zc =>
  rw [hzt] at hz0
  obtain ⟨zr, p1, p2⟩ := Vh (show a5v c zc = some z0 from hz0)
  have hzd : Yu P te = some (zc.map qp) := by rw [vM, hzt]; rfl
  obtain ⟨zs, z1, z2⟩ := Zd (P := P) (S := qd W0 γ (eL L) h) (γ := γ) (L := eL L) (h := h) hzd
  have hpv : All2 (PR P (qd W0 γ (eL L) h) h) zr zs := QD z2 (u5 p1)
  have hzl : zs.length = i.size := by rw [← hpv.length, ← p2.length, kd, hsz.1]
  have hszT : szT P te = some i.size := by unfold szT; rw [hi]; rfl
  have hf := uW hpv a.toNat
  rw [hzl] at hf
  have hlen : (List.replicate a.toNat zr).length = a.toNat := List.length_replicate
  obtain ⟨γ', a1, a2, a3⟩ := Uw H (te := te) (c := a.toNat) hszT h0z (rows := List.replicate a.toNat zr) (cs := wb zs a.toNat) (by rw [hf.len]; exact Nat.le_refl _) (by rw [hlen]; exact l1) hf.wide hf.get (.inr ⟨by rw [hlen]; exact Nat.le_refl _, l1⟩)
  refine ⟨.cells (wb zs a.toNat) te true, qr a.toNat a.toNat, ?_, ?_⟩
  ·unfold Z4
   simp only [hu, WQ q1, z1, hi]
   rw [if_pos ⟨Nat.le_refl _, by rw [Nat.mul_comm]; omega, l1, h0z⟩]
  ·obtain ⟨b', c3⟩ := a37 a1 (id := (eL L).length) (e := some te) (rows := List.replicate a.toNat zr) (rows' := (List.replicate a.toNat z0).map (qF c)) (by simp) (.inr (by rw [List.map_replicate]; exact UN p2 _))
   have he : (eL L ++ [Obj.li (some te) (List.replicate a.toNat zr)]).set (eL L).length (.li (some te) ((List.replicate a.toNat z0).map (qF c))) = eL (L ++ [.li c te true (List.replicate a.toNat z0)]) := by
    rw [jl, List.set_append_right _ _ (Nat.le_refl _)]
    simp [ko, eo]
   rw [he] at b' c3
   refine ⟨γ', _, _, e, b', a2.trans' c3, ?_⟩
   have := c3.dr a3
   rw [hlen] at this
   rw [u7, ← zA L]
   exact this
end
end Go.Sim
namespace Go.Sim
open Go.RowKit
section
variable {R : Type} {P : Program} {γ : Pl} {L : List TO} {h : Heap} {h0 : Heap} {W0 : Ent} {z : R} {K : TV → List TO → Tree R}
theorem ah0 {Lo : List Obj} (H : Hp P h0 W0 γ Lo h) {id tot s : Nat} {t t2 te : TypeId} {eo' : Option TypeId} {rows ys : List (List PV)} {x : DV} {v w : Value} (hu : P.underlying t = some (.slice te)) (hs : szT P te = some s)
  (hi : Lo[id]? = some (.li eo' rows)) (heo : ∀ te', eo' = some te' → te' = te) (ht : rows.length = tot) (hd : DR P (qd W0 γ Lo h) γ Lo h (.ref id 0 tot tot) v) (hx : DR P (qd W0 γ Lo h) γ Lo h x w) (hy : a2y P Lo s t2 x = some ys) (hle : ys.length ≤ tot) :
  ∃ h', Xb P [t, t2] h v w = some (goInt ys.length, h') ∧ Hp P h0 W0 γ (Lo.set id (.li eo' (ys ++ rows.drop ys.length))) h' ∧ Carry W0 γ Lo h γ (Lo.set id (.li eo' (ys ++ rows.drop ys.length))) h' := by
 obtain ⟨cs, hsrc, hf⟩ := yk H hx hy
 have hlt : id < Lo.length := (List.getElem?_eq_some_iff.1 hi).1
 have same : Lo.set id (.li eo' rows) = Lo := by
  refine List.ext_getElem? fun j => ?_
  by_cases hj : j = id
  ·subst hj; rw [List.getElem?_set_self hlt, hi]
  ·rw [List.getElem?_set_ne (Ne.symm hj)]
 unfold Xb
 simp only [hu, hs, hsrc]
 by_cases h0y : ys.length = 0
 ·have hys : ys = [] := List.length_eq_zero_iff.1 h0y
  subst hys
  have hl : Lo.set id (.li eo' ([] ++ rows.drop ([] : List (List PV)).length)) = Lo := by simpa using same
  rw [hl]
  refine ⟨h, ?_, H, Carry.refl _ _ _⟩
  obtain ⟨k1, k2, k3⟩ := (show DB P (qd W0 γ Lo h) γ Lo h (.ref id 0 tot tot) v from hd)
  obtain ⟨_, m2⟩ := k3 _ rows hi rfl
  obtain ⟨_, m4⟩ := m2 ht
  obtain ⟨z0, hz0⟩ := H.width hi rfl
  rcases m4 z0 hz0 with ⟨rfl | ⟨b, o, rfl⟩, _⟩ | ⟨b, o, c, rfl, _⟩ | ⟨b, o, c, _, rfl, _⟩ <;> simp
 ·obtain ⟨k1, k2, k3⟩ := (show DB P (qd W0 γ Lo h) γ Lo h (.ref id 0 tot tot) v from hd)
  obtain ⟨_, m2⟩ := k3 _ rows hi rfl
  obtain ⟨_, m4⟩ := m2 ht
  have ho := H.obj id _ hi
  cases eo' with
  | none =>
   obtain ⟨rfl, _⟩ := ho
   simp at ht; omega
  | some te' =>
   have := heo te' rfl
   subst this
   obtain ⟨b, o, g1, cs0, zz, r1, r2, r3, r4, r5, r6, r7⟩ := ho
   have hzs : zz = s := by rw [hs] at r2; cases r2; rfl
   subst hzs
   rcases m4 _ r6 with ⟨_, h1, _⟩ | ⟨_, _, _, _, h1, h2⟩ | ⟨b', o', c, g, rfl, d1, d2, d3⟩
   ·omega
   ·omega
   ·rw [g1] at g; cases g
    simp only [Nat.zero_mul, Nat.add_zero]
    rw [if_neg h0y, if_pos hle]
    simp only [r1]
    have hmul : ys.length * zz ≤ rows.length * zz := Nat.mul_le_mul_right _ (by omega)
    have hfl : cs.length = ys.length * zz := hf.len
    rw [if_pos (by omega)]
    have hlen : (ys ++ rows.drop ys.length).length = rows.length := by simp; omega
    have hw' : ∀ r ∈ ys ++ rows.drop ys.length, r.length = zz := by
     intro r hr
     rcases List.mem_append.1 hr with hr | hr
     ·exact hf.wide r hr
     ·exact r6 r (List.mem_of_mem_drop hr)
    obtain ⟨a1, a2⟩ := a6l H (rows' := ys ++ rows.drop ys.length) (cs' := qG cs0 o cs) hi g1 r1 hlen r6 hw' r2 r3 (by rw [WI]; exact r4) r5 (fun i r j x' u e1 e2 e3 => by
     have hj : j < zz := by
      have := hw' r (List.mem_of_getElem? e1)
      rw [← this]; exact (List.getElem?_eq_some_iff.1 e2).1
     rw [Zq _ _ _ _ (by omega)] at e3
     by_cases hiy : i < ys.length
     ·rw [List.getElem?_append_left hiy] at e1
      have hlt2 : i * zz + j < ys.length * zz := by
       have : (i + 1) * zz ≤ ys.length * zz := Nat.mul_le_mul_right _ hiy
       rw [Nat.succ_mul] at this; omega
      rw [if_pos (by omega), show o + i * zz + j - o = i * zz + j by omega] at e3
      exact hf.get i r j x' u e1 e2 e3
     ·rw [List.getElem?_append_right (by omega), List.getElem?_drop, show ys.length + (i - ys.length) = i by omega] at e1
      have hge : ys.length * zz ≤ i * zz := Nat.mul_le_mul_right _ (by omega)
      rw [if_neg (by omega)] at e3
      exact r7 i r j x' u e1 e2 e3)
    exact ⟨_, rfl, a1, a2⟩
theorem a2r {c : CT} (h1 : c.size = 1) : ∀ {k off : Nat} {ys : List c.T} {cells : List TV} {R : Type} {Kc : List TV → Tree R} {z : R}, (ahi c k off ys cells Kc).run = some z → ys.length = k → (Kc (jf cells off (ys.flatMap (tvC c)))).run = some z
 | 0, off, ys, cells, R, Kc, z, e, hl => by
  have : ys = [] := List.length_eq_zero_iff.1 hl
  subst this
  exact e
 | k + 1, off, ys, cells, R, Kc, z, e, hl => by
  cases ys with
  | nil => cases hl
  | cons y ys =>
   unfold ahi at e
   obtain ⟨y', hy, e⟩ := ke e
   cases hy
   have := a2r h1 e (by simpa using hl)
   obtain ⟨a, ha⟩ : ∃ a, tvC c y = [a] := List.length_eq_one_iff.1 (by rw [a3V, h1])
   simp only [List.drop_succ_cons, List.drop_zero] at this
   rw [List.flatMap_cons, ha, List.singleton_append]
   rw [ha] at this
   exact this
theorem a4O {ty : TypeId → Option CT} {ts : List TypeId} {d x : TV} {v w : Value} (H : Hp P h0 W0 γ (eL L) h) (hd : DR P (qd W0 γ (eL L) h) γ (eL L) h (enc d) v) (hx : DR P (qd W0 γ (eL L) h) γ (eL L) h (enc x) w)
  (e : (acK P ty L ts d x K).run = some z) : ∃ u h', Xb P ts h v w = some (u, h') ∧ J7 P h0 W0 γ L h K z u h' := by
 unfold acK at e
 split at e
 case h_2 => cases e
 rename_i t t2
 split at e
 case h_2 => cases e
 rename_i te hu
 split at e
 ·replace e := q8 e; obtain ⟨c, hc, e⟩ := e
  split at e
  case isFalse => cases e
  rename_i hs
  replace e := Z6 e; obtain ⟨ys, hy, e⟩ := e
  rw [qa] at e
  split at e
  case isFalse => cases e
  rename_i hl
  have hys : ys = [] := List.length_eq_zero_iff.1 hl
  subst hys
  obtain ⟨cs, hsrc, hf⟩ := yk H hx hy
  have : v = .slice none 0 0 := PR.scal (P := P) (S := qd W0 γ (eL L) h) (h := h) hd
  subst this
  refine ⟨goInt (0 : Nat), h, ?_, ⟨γ, _, _, e, H, Carry.refl _ _ _, PR.v rfl⟩⟩
  unfold Xb
  simp only [hu, hs, hsrc]
  simp
 ·rename_i id tot
  split at e
  case h_2 => cases e
  rename_i c e' loc xs hL
  split at e
  case isFalse => cases e
  rename_i hc
  obtain ⟨hs, rfl⟩ := hc
  replace e := Z6 e; obtain ⟨ys, hy, e⟩ := e
  rw [qa] at e
  split at e
  case isFalse => cases e
  rename_i hq
  obtain ⟨q1, q2⟩ := hq
  obtain ⟨h', a1, a2, a3⟩ := ah0 H (rows := xs.map (qF c)) (ys := ys.map (qF c)) (tot := tot) hu hs (qX hL) (fun te' he => by
   unfold eo at he
   split at he
   ·cases he; rfl
   ·split at he
    ·cases he
    ·cases he; rfl) (by simpa using q1) hd hx hy (by simpa using q2)
  have hset : (eL L).set id (.li (eo loc e' xs.length) (ys.map (qF c) ++ (xs.map (qF c)).drop (ys.map (qF c)).length)) = eL (L.set id (.li c e' loc (ys ++ xs.drop ys.length))) := by
   rw [Z7]
   congr 1
   show Obj.li _ _ = Obj.li _ _
   have : (ys ++ xs.drop ys.length).length = xs.length := by simp; omega
   rw [this, List.map_append, List.map_drop, List.length_map]
  rw [hset] at a2 a3
  rw [List.length_map] at a1
  exact ⟨_, h', a1, γ, _, _, e, a2, a3, PR.v rfl⟩
 ·rename_i id off n
  split at e
  case h_2 => cases e
  rename_i cells hL
  replace e := q8 e; obtain ⟨c, hc, e⟩ := e
  split at e
  case isFalse => cases e
  rename_i hcc
  obtain ⟨hs, h1, hoff⟩ := hcc
  replace e := Z6 e; obtain ⟨ys, hy, e⟩ := e
  obtain ⟨k, k1, k2, e⟩ := j5 e
  have hk : ys.length = k := by omega
  have e2 := a2r h1 e hk
  obtain ⟨cs, hsrc, hf⟩ := yk H hx hy
  obtain ⟨b, g, ⟨c0, hc0⟩, rfl⟩ := (show DB P (qd W0 γ (eL L) h) γ (eL L) h (.aref id off n) v from hd)
  have hi : (eL L)[id]? = some (.st (cells.map qp)) := qX hL
  have hO := H.obj id _ hi
  obtain ⟨b', te', vs, g', hb, hall⟩ := hO
  rw [g] at g'; cases g'
  have hlt : id < L.length := (List.getElem?_eq_some_iff.1 hL).1
  have hvl : vs.length = cells.length := by rw [← hall.length]; simp
  rw [h1] at hs hf hsrc
  rw [List.length_map, hk] at hsrc
  have hcs : cs.length = k := by rw [hf.len, Nat.mul_one, List.length_map, hk]
  have hcells : All2 (DC P (qd W0 γ (eL L) h) γ (eL L) h) ((ys.flatMap (tvC c)).map qp) cs := by
   refine All2.of_get ?_ fun i a b2 ha hb2 => ?_
   ·rw [List.length_map, List.length_flatMap, hcs, ← hk]
    have : ∀ l : List c.T, (l.map fun y => (tvC c y).length).sum = l.length := by
     intro l
     induction l with
     | nil => rfl
     | cons y l ih => rw [List.map_cons, List.sum_cons, ih, a3V, h1, List.length_cons, Nat.add_comm]
    exact this ys
   ·have hil : i < ys.length := by
     have := (List.getElem?_eq_some_iff.1 hb2).1
     omega
    obtain ⟨y, hyi⟩ : ∃ y, ys[i]? = some y := ⟨_, List.getElem?_eq_getElem hil⟩
    have hfm : ∀ (l : List c.T) (i : Nat) (y : c.T), l[i]? = some y → ((l.flatMap (tvC c)).map qp)[i]? = ((tvC c y).map qp)[0]? := by
     intro l
     induction l with
     | nil => intro i y q; simp at q
     | cons y0 l ih =>
      intro i y q
      obtain ⟨a0, ha0⟩ : ∃ a, tvC c y0 = [a] := List.length_eq_one_iff.1 (by rw [a3V, h1])
      rw [List.flatMap_cons, ha0, List.singleton_append, List.map_cons]
      cases i with
      | zero => simp at q; subst q; rw [ha0]; rfl
      | succ i => rw [List.getElem?_cons_succ]; exact ih i y (by simpa using q)
    rw [hfm ys i y hyi, Zz] at ha
    have hrow : (ys.map (qF c))[i]? = some (qF c y) := by rw [List.getElem?_map, hyi]; rfl
    obtain ⟨p, hp⟩ : ∃ p, qF c y = [p] := List.length_eq_one_iff.1 (by rw [kd, h1])
    rw [hp] at ha hrow
    cases ha
    exact hf.get i [p] 0 p b2 hrow rfl (by simpa using hb2)
  unfold Xb
  simp only [hu, hs, hsrc]
  by_cases h0k : k = 0
  ·rw [if_pos h0k]
   subst h0k
   have hys : ys = [] := List.length_eq_zero_iff.1 hk
   subst hys
   have hset : L.set id (.st (jf cells off (([] : List c.T).flatMap (tvC c)))) = L := by
    refine List.ext_getElem? fun j => ?_
    by_cases hj : j = id
    ·subst hj; rw [List.getElem?_set_self hlt, hL]; rfl
    ·rw [List.getElem?_set_ne (Ne.symm hj)]
   rw [hset] at e2
   exact ⟨_, _, rfl, γ, _, _, e2, H, Carry.refl _ _ _, PR.v rfl⟩
  ·rw [if_neg h0k, if_pos (by omega)]
   simp only [hb]
   rw [if_pos (by omega)]
   obtain ⟨a1, a2⟩ := a5g H (cells' := kD (cells.map qp) off ((ys.flatMap (tvC c)).map qp)) (vs' := qG vs off cs) hi g hb (Qi hall hcells)
   have hset : (eL L).set id (.st (kD (cells.map qp) off ((ys.flatMap (tvC c)).map qp))) = eL (L.set id (.st (jf cells off (ys.flatMap (tvC c))))) := by
    rw [Z7]
    congr 1
    show Obj.st _ = Obj.st _
    rw [ZA]
   rw [hset] at a1 a2
   exact ⟨_, _, rfl, γ, _, _, e2, a1, a2, PR.v rfl⟩
 ·cases e
end
end Go.Sim
namespace Go.Sim
open Go.RowKit
section
variable {R : Type}
def a4r (P : Program) (ty : TypeId → Option CT) (L : List TO) (t : TypeId) (x : TV) (lo hi : Option Int) (K : TV → List TO → Tree R) : Tree R :=
 match P.underlying t with
 | some (.array n e) => match x with
  | .ptr id off => ql (szT P e) fun s => if n ≤ maxLen then JY (hi.getD n) (n + 1) fun r => JY (lo.getD 0) (r + 1) fun l => match decide (l < n) with
   | true => K (.aref id (off + l * s) (r - l)) L
   | false => ql (ty e) fun c => K (.ref L.length 0) (L ++ [.li c e false []]) else .fail
  | _ => .fail
 | some (.slice e) => match x with
  | .aref id off n => ql (szT P e) fun s => JY (hi.getD n) (n + 1) fun r => JY (lo.getD 0) (r + 1) fun l => match decide (l < n) with
   | true => K (.aref id (off + l * s) (r - l)) L
   | false => .fail
  | _ => .fail
 | _ => .fail
def ajv : Option TV → Bool
 | some (.ptr _ _) => true
 | some (.aref _ _ _) => true
 | _ => false
def a71 (P : Program) (ty : TypeId → Option CT) (call : yc R) (o : Op) (ρ : KB) (L : List TO) (K : TV → List TO → Tree R) : Tree R :=
 match o with
 | .slice t x lo (some hi) (some mx) => ql (ρ x) fun x => ql (a1l ρ lo) fun lo => ql (a1l ρ (some hi)) fun hi => ql (a1l ρ (some mx)) fun mx => match hi, mx with
  | some hi, some mx => a2J P ty L t x lo hi mx K
  | _, _ => .fail
 | .slice t x lo hi none => match ajv (ρ x) with
  | true => ql (ρ x) fun x => ql (a1l ρ lo) fun lo => ql (a1l ρ hi) fun hi => a4r P ty L t x lo hi K
  | false => vC P ty call (.slice t x lo hi none) ρ L K
 | .makeSlice t l c => match ρ l, ρ c with
  | some (.v (.int _ a)), some (.v (.int _ b)) => adX P ty L t a b K
  | _, _ => .fail
 | .index t x i => match P.underlying t, ρ x, ρ i with
  | some (.array n e), some (.agg cs), some (.v (.int _ j)) => ql (szT P e) fun s => JY j n fun m => ql (J6 P e cs (m * s)) fun d => K d L
  | _, _, _ => vC P ty call (.index t x i) ρ L K
 | .indexAddr t x i => match P.underlying t, ρ x, ρ i with
  | some (.array n e), some (.ptr id off), some (.v (.int _ j)) => ql (szT P e) fun s => JY j n fun m => K (.ptr id (off + m * s)) L
  | some (.slice e), some (.aref id off n), some (.v (.int _ j)) => ql (szT P e) fun s => JY j n fun m => K (.ptr id (off + m * s)) L
  | _, _, _ => vC P ty call (.indexAddr t x i) ρ L K
 | .call { callee := .builtin .copy, args := args, argTypes := ts } => ql (YO ρ args.toList) fun ds => match ds with
  | [d, x] => acK P ty L ts.toList d x K
  | _ => .fail
 | .call { callee := .builtin .append, args := args, argTypes := ts } => match YO ρ args.toList with
  | some [.slx c xs, x] => aeq P ts.toList L c xs x K
  | _ => vC P ty call (.call { callee := .builtin .append, args := args, argTypes := ts }) ρ L K
 | o => vC P ty call o ρ L K
variable {P : Program} {γ : Pl} {L : List TO} {h : Heap} {h0 : Heap} {W0 : Ent} {z : R} {K : TV → List TO → Tree R}
theorem a9F {lo hi : Option Int} {n l r : Nat} {vl vh : Option Value} (b1 : BdV lo vl) (b2 : BdV hi vh) (h1 : hi.getD n = r) (h2 : lo.getD 0 = l) (h3 : l ≤ r) (h4 : r ≤ n) : qz n n vl vh none = some (l, r, none) := by
 unfold qz
 cases hi with
 | none =>
  have hr : r = n := by simp at h1; omega
  subst hr
  cases vh with
  | some _ => cases b2
  | none =>
   simp only
   cases lo with
   | none =>
    have hl : l = 0 := by simp at h2; omega
    subst hl
    cases vl with
    | none => rfl
    | some _ => cases b1
   | some q =>
    obtain ⟨k1, rfl⟩ := K2 b1
    simp only [Option.getD_some] at h2
    subst h2
    simp only [WQ (show (0 : Int) ≤ (l : Int) by omega), Int.toNat_natCast]
    rw [if_pos h3]
 | some q =>
  obtain ⟨k1, rfl⟩ := K2 b2
  simp only [Option.getD_some] at h1
  subst h1
  simp only [WQ (show (0 : Int) ≤ (r : Int) by omega), Int.toNat_natCast]
  rw [if_pos h4]
  cases lo with
  | none =>
   have hl : l = 0 := by simp at h2; omega
   subst hl
   cases vl with
   | none => rfl
   | some _ => cases b1
  | some q =>
   obtain ⟨k2, rfl⟩ := K2 b1
   simp only [Option.getD_some] at h2
   subst h2
   simp only [WQ (show (0 : Int) ≤ (l : Int) by omega), Int.toNat_natCast]
   rw [if_pos h3]
theorem a1d {ty : TypeId → Option CT} {t : TypeId} {x : TV} {lo hi : Option Int} {vl vh : Option Value} {v : Value} (H : Hp P h0 W0 γ (eL L) h) (hx : DR P (qd W0 γ (eL L) h) γ (eL L) h (enc x) v) (b1 : BdV lo vl) (b2 : BdV hi vh)
  (e : (a4r P ty L t x lo hi K).run = some z) : ∃ u, z5 P (qU P h) t v vl vh none = some u ∧ J7 P h0 W0 γ L h K z u h := by
 unfold a4r at e
 split at e
 ·rename_i n te hu
  split at e
  case h_2 => cases e
  rename_i id off
  replace e := q8 e; obtain ⟨s, hs, e⟩ := e
  split at e
  case isFalse => cases e
  rename_i hn
  obtain ⟨r, r1, r2, e'⟩ := j5 e
  clear e
  obtain ⟨l, l1, l2, e⟩ := j5 e'
  clear e'
  have hb := a9F b1 b2 r2 l2 (by omega) (by omega)
  by_cases hl : l < n
  ·rw [decide_eq_true hl] at e
   have hd : wj P (eL L) t (.ptr id off) vl vh none = some (.aref id (off + l * s) (r - l)) := by
    unfold wj
    simp only [hu, hs, hb]
    rw [if_pos ⟨hl, hn⟩]
   obtain ⟨u, u1, u2⟩ := Qr H (x := .ptr id off) hx hd
   exact ⟨u, u1, γ, _, _, e, H, Carry.refl _ _ _, u2⟩
  ·rw [decide_eq_false hl] at e
   replace e := q8 e; obtain ⟨c, hc, e⟩ := e
   obtain ⟨b, g, hst, rfl⟩ := (show DB P (qd W0 γ (eL L) h) γ (eL L) h (.ptr id off) v from hx)
   have hln : l = n := by omega
   have hrn : r = n := by omega
   subst hln hrn
   refine ⟨.slice (some ⟨b, off, none⟩) 0 0, ?_, ?_⟩
   ·unfold z5
    simp only [hu, hs, hb, Option.getD_none, Nat.sub_self]
    rw [if_pos hn, if_pos trivial]
   ·obtain ⟨a1, a2, a3⟩ := xE H (v := .slice (some ⟨b, off, none⟩) 0 0) (.inr ⟨_, _, rfl⟩)
    rw [show ([Obj.li none []] : List Obj) = [ko (TO.li c te false [])] from rfl, ← jl] at a1 a2
    refine ⟨γ, _, _, e, a1, a2, ?_⟩
    rw [u7, jl, ← zA L]
    exact a3
 ·rename_i te hu
  split at e
  case h_2 => cases e
  rename_i id off n
  replace e := q8 e; obtain ⟨s, hs, e⟩ := e
  obtain ⟨r, r1, r2, e'⟩ := j5 e
  clear e
  obtain ⟨l, l1, l2, e⟩ := j5 e'
  clear e'
  have hb := a9F b1 b2 r2 l2 (by omega) (by omega)
  by_cases hl : l < n
  ·rw [decide_eq_true hl] at e
   have hd : wj P (eL L) t (.aref id off n) vl vh none = some (.aref id (off + l * s) (r - l)) := by
    unfold wj
    simp only [hu, hs, hb]
    rw [if_pos hl]
   obtain ⟨u, u1, u2⟩ := Qr H (x := .aref id off n) hx hd
   exact ⟨u, u1, γ, _, _, e, H, Carry.refl _ _ _, u2⟩
  ·rw [decide_eq_false hl] at e
   cases e
 ·cases e
theorem a9H {ρ : KB} {r : Rho} (hρ : xy P W0 γ (eL L) h (ZW ρ) r) {x : Operand} {k : IntKind} {n : Int} (e : ρ x = some (.v (.int k n))) : r x = some (.int k n) := by
 obtain ⟨v, e1, r1⟩ := zP hρ e
 have : v = .int k n := PR.scal (P := P) (S := qd W0 γ (eL L) h) (h := h) r1
 rw [e1, this]
theorem vz {ρ : KB} {r : Rho} (hρ : xy P W0 γ (eL L) h (ZW ρ) r) {x : Option Operand} {n : Option Int} (h : a1l ρ x = some n) : ∃ v, wi r x = some v ∧ BdV n v := by
 obtain ⟨v, h1, h2⟩ := a2X h
 exact ⟨v, KI hρ h1, h2⟩
theorem uS {ty : TypeId → Option CT} {call : yc R} {wr : TWr} (hcall : TCallOk P call wr) {o : Op} {ρ : KB} {r : Rho} (H : Hp P h0 W0 γ (eL L) h) (hρ : xy P W0 γ (eL L) h (ZW ρ) r) (e : (a71 P ty call o ρ L K).run = some z) : qy P o r h (J7 P h0 W0 γ L h K z) := by
 unfold a71 at e
 split at e
 ·rename_i t x lo hi mx
  replace e := q8 e; obtain ⟨x', h1, e⟩ := e
  replace e := q8 e; obtain ⟨lo', h2, e⟩ := e
  replace e := q8 e; obtain ⟨hi', h3, e⟩ := e
  replace e := q8 e; obtain ⟨mx', h4, e⟩ := e
  split at e
  case h_2 => cases e
  obtain ⟨v, v1, v2⟩ := zP hρ h1
  obtain ⟨vl, l1, l2⟩ := vz hρ h2
  obtain ⟨vh, l3, l4⟩ := vz hρ h3
  obtain ⟨vm, l5, l6⟩ := vz hρ h4
  obtain ⟨u, u1, u2⟩ := a0Q H v2 l2 l4 l6 e
  simp only [qy, v1, l1, l3, l5, u1]
  exact u2
 ·rename_i t x lo hi
  split at e
  ·replace e := q8 e; obtain ⟨x', h1, e⟩ := e
   replace e := q8 e; obtain ⟨lo', h2, e⟩ := e
   replace e := q8 e; obtain ⟨hi', h3, e⟩ := e
   obtain ⟨v, v1, v2⟩ := zP hρ h1
   obtain ⟨vl, l1, l2⟩ := vz hρ h2
   obtain ⟨vh, l3, l4⟩ := vz hρ h3
   obtain ⟨u, u1, u2⟩ := a1d H v2 l2 l4 e
   have l5 : wi r none = some none := rfl
   simp only [qy, v1, l1, l3, l5, u1]
   exact u2
  ·exact jJ hcall H hρ e
 ·rename_i t l c
  split at e
  ·rename_i ka a kb b h1 h2
   obtain ⟨q, mk, m1, m2⟩ := a57 (ka := ka) (kb := kb) H e
   have n1 : w4 P (.makeSlice t l c) r = some (q, mk) := by
    simp only [w4, a9H hρ h1, a9H hρ h2]
    exact m1
   simp only [qy, n1]
   exact m2
  ·cases e
 ·rename_i t x i
  split at e
  ·rename_i n te cs ki j hu hx hi
   replace e := q8 e; obtain ⟨s, hs, e⟩ := e
   obtain ⟨m, m1, rfl, e'⟩ := j5 e
   refine jJ hcall H hρ (ty := ty) (call := call) ?_
   unfold vC
   simp only [hx, hi, ql, XR, hu, a15, hs, Int.toNat_natCast]
   rw [qa, if_pos ⟨by omega, m1⟩]
   exact e'
  ·exact jJ hcall H hρ e
 ·rename_i t x i
  split at e
  ·rename_i n te id off ki j hu hx hi
   replace e := q8 e; obtain ⟨s, hs, e⟩ := e
   obtain ⟨m, m1, rfl, e'⟩ := j5 e
   refine jJ hcall H hρ (ty := ty) (call := call) ?_
   unfold vC
   simp only [hx, hi, ql, Z1, hu, a15, hs, Int.toNat_natCast, ton]
   rw [qa, if_pos ⟨by omega, m1⟩]
   exact e'
  ·rename_i te id off n ki j hu hx hi
   replace e := q8 e; obtain ⟨s, hs, e⟩ := e
   obtain ⟨m, m1, rfl, e'⟩ := j5 e
   refine jJ hcall H hρ (ty := ty) (call := call) ?_
   unfold vC
   simp only [hx, hi, ql, Z1, hu, a15, hs, Int.toNat_natCast]
   rw [qa, if_pos ⟨by omega, m1⟩]
   exact e'
  ·exact jJ hcall H hρ e
 ·rename_i args ts
  replace e := q8 e; obtain ⟨ds, h1, e⟩ := e
  split at e
  case h_2 => cases e
  rename_i d x
  obtain ⟨vs, e3, r3⟩ := zh hρ (ds := [d, x].map enc) (by rw [kO, h1]; rfl)
  cases r3 with
  | cons hd t => cases t with
   | cons hx t =>
    cases t
    obtain ⟨u, h', u1, u2⟩ := a4O H hd hx e
    simp only [qy, e3, u1]
    exact u2
 ·rename_i args ts
  split at e
  ·rename_i c xs x h1
   obtain ⟨vs, e3, r3⟩ := zh hρ (ds := [.slx c xs, x].map enc) (by rw [kO, h1]; rfl)
   cases r3 with
   | cons hd t => cases t with
    | cons hx t =>
     cases t
     obtain ⟨u, h', u1, u2, _⟩ := Xp H hd hx e
     simp only [qy, e3, u1]
     exact u2
  ·exact jJ hcall H hρ e
 ·exact jJ hcall H hρ e
end
end Go.Sim
namespace Go.Sim
open Go.RowKit
section
variable {R : Type}
def ac9 : Value → Value → Option Bool
 | .int k a, .int k' b => if k = k' then some (decide (a = b)) else none
 | .string a, .string b => some (a == b)
 | .bool a, .bool b => some (a == b)
 | _, _ => none
def a9E (k : Value) : List (Value × TV) → (TV → Tree R) → Tree R → Tree R
 | [], _, N => N
 | e :: es, K, N => match ac9 k e.1 with
  | some b => .cond b (K e.2) (a9E k es K N)
  | none => .fail
def a4c (k : Value) : List (Value × TV) → Bool
 | [] => true
 | e :: es => match ac9 k e.1 with
  | some false => a4c k es
  | _ => false
def tvZ (z : Value) : Option TV := match constK z with
 | true => (match z with
  | .agg xs => match xs.toList.all scal with
   | true => some (.agg (xs.toList.map .v))
   | false => none
  | z => match scal z with
   | true => some (.v z)
   | false => none)
 | false => none
def a0r (P : Program) (L : List TO) (t : TypeId) (K : TV → List TO → Tree R) : Tree R := match P.underlying t with
 | some (.map _ _) => K (.mref L.length) (L ++ [.mp []])
 | _ => .fail
def a3b (P : Program) (L : List TO) (t : TypeId) (m k v : TV) (K : List TO → Tree R) : Tree R := match P.underlying t, m, k with
 | some (.map kt _), .mref id, .v kv => match L[id]? with
  | some (.mp es) => match w3 P kt kv && a4c kv es && ZQ v with
   | true => K (L.set id (.mp (es ++ [(kv, v)])))
   | false => .fail
  | _ => .fail
 | _, _, _ => .fail
def a3e (P : Program) (L : List TO) (t : TypeId) (m k : TV) (ok : Bool) (K : TV → List TO → Tree R) : Tree R := match P.underlying t, m, k with
 | some (.map kt et), .mref id, .v kv => match L[id]? with
  | some (.mp es) => match w3 P kt kv with
   | true => a9E kv es (fun v => match ok with
     | true => K (.tup [v, .v (.bool true)]) L
     | false => K v L) (ql ((P.info? et).bind (·.zero)) fun zv => ql (tvZ zv) fun zt => match ok with
     | true => K (.tup [zt, .v (.bool false)]) L
     | false => K zt L)
   | false => .fail
  | _ => .fail
 | _, _, _ => .fail
def a40 (P : Program) (ty : TypeId → Option CT) (L : List TO) (t : TypeId) (K : TV → List TO → Tree R) : Tree R :=
 match P.underlying t with
 | some (.slice e) => ql (ty e) fun c => ql (qY P e) fun _ => if szT P e = some c.size then K (.ref L.length 0) (L ++ [.li c e false []]) else .fail
 | _ => .fail
def top (P : Program) (ty : TypeId → Option CT) (call : yc R) (o : Op) (ρ : KB) (L : List TO) (K : TV → List TO → Tree R) : Tree R :=
 match o with
 | .makeMap t none => a0r P L t K
 | .insert t x y z => ql (ρ x) fun m => ql (ρ y) fun k => ql (ρ z) fun v => a3b P L t m k v fun L' => K a8b L'
 | .lookup t x y ok => ql (ρ x) fun m => ql (ρ y) fun k => a3e P L t m k ok K
 | .buildSlice t n ps => match decide (n = 0) && ps.toList.isEmpty with
  | true => a40 P ty L t K
  | false => a71 P ty call (.buildSlice t n ps) ρ L K
 | o => a71 P ty call o ρ L K
variable {P : Program} {γ : Pl} {L : List TO} {h : Heap} {h0 : Heap} {W0 : Ent} {z : R} {K : TV → List TO → Tree R}
theorem Qs (a b : Int) : (a == b) = decide (a = b) := by by_cases h : a = b <;> simp [h]
theorem a4K {kt : TypeId} {x y : Value} {b : Bool} (hk : w3 P kt x = true) (e : ac9 x y = some b) : vf P kt x y = some b := by
 unfold w3 at hk
 unfold vf
 split at hk
 ·rename_i hu; simp only [hu, wQ, if_true]
  cases y with
  | int k' n' => simp only [ac9] at e; simp only [Instr.sameNow, Qs]; exact e
  | _ => cases e
 ·rename_i hu; simp only [hu, wQ, if_true]
  cases y with
  | string s => simp only [ac9] at e; simp only [Instr.sameNow]; exact e
  | _ => cases e
 ·rename_i hu; simp only [hu, wQ, if_true]
  cases y with
  | bool s => simp only [ac9] at e; simp only [Instr.sameNow]; exact e
  | _ => cases e
 ·cases y <;> cases e
 ·cases hk
abbrev MpR (P : Program) (S : Nat → Prop) (γ : Pl) (Lo : List Obj) (h : Heap) : Value × DV → MapEntry → Prop := fun d e => e.key = d.1 ∧ D1 P S γ Lo h d.2 e.val
theorem a0m {kt : TypeId} {k : Value} (hk : w3 P kt k = true) {S : Nat → Prop} {Lo : List Obj} {Kv : TV → Tree R} {N : Tree R} : ∀ {es : List (Value × TV)} {mes : List MapEntry} (i : Nat), (a9E k es Kv N).run = some z → All2 (MpR P S γ Lo h) (es.map fun x => (x.1, qP x.2)) mes →
  (Qe P kt k mes i = some none ∧ N.run = some z) ∨ ∃ j u v, Qe P kt k mes i = some (some (j, u)) ∧ D1 P S γ Lo h (qP v) u ∧ (Kv v).run = some z
 | [], _, i, e, .nil => .inl ⟨rfl, e⟩
 | x :: es, _, i, e, .cons (b := y) hy t => by
  unfold a9E at e
  split at e
  case h_2 => cases e
  rename_i b hb
  have h1 := a4K hk hb
  rw [← hy.1] at h1
  unfold Qe
  cases b with
  | true => exact .inr ⟨i, _, x.2, by rw [h1], hy.2, e⟩
  | false =>
   rw [h1]
   exact a0m hk (i + 1) e t
theorem xR {kt : TypeId} {k : Value} (hk : w3 P kt k = true) {S : Nat → Prop} {Lo : List Obj} : ∀ {es : List (Value × TV)} {mes : List MapEntry} (i : Nat), a4c k es = true → All2 (MpR P S γ Lo h) (es.map fun x => (x.1, qP x.2)) mes → Qe P kt k mes i = some none
 | [], _, i, e, .nil => rfl
 | x :: es, _, i, e, .cons (b := y) hy t => by
  unfold a4c at e
  split at e
  case h_2 => cases e
  rename_i hb
  have h1 := a4K hk hb
  rw [← hy.1] at h1
  unfold Qe
  rw [h1]
  exact xR hk (i + 1) e t
theorem scs {S : Nat → Prop} {Lo : List Obj} : ∀ {l : List Value}, l.all scal = true → All2 (DC P S γ Lo h) ((l.map TV.v).map qp) l
 | [], _ => .nil
 | v :: l, e => by
  simp only [List.all_cons, Bool.and_eq_true] at e
  exact .cons (PR.v e.1) (scs e.2)
theorem aeM {zv : Value} {zt : TV} (e : tvZ zv = some zt) {S : Nat → Prop} {Lo : List Obj} : constK zv = true ∧ D1 P S γ Lo h (qP zt) zv := by
 unfold tvZ at e
 split at e
 case h_2 => cases e
 rename_i hc
 refine ⟨hc, ?_⟩
 split at e
 ·rename_i xs _
  split at e
  ·rename_i hs
   cases e
   exact ⟨_, rfl, scs hs⟩
  ·cases e
 ·split at e
  ·rename_i hs
   cases e
   exact PR.v hs
  ·cases e
theorem aep {S : Nat → Prop} {Lo : List Obj} {v : TV} {u : Value} {b : Bool} (hd : D1 P S γ Lo h (qP v) u) : DR P S γ Lo h (enc (.tup [v, .v (.bool b)])) (.tuple #[u, .bool b]) :=
 ⟨_, rfl, .cons hd (.cons (PR.v rfl) .nil)⟩
theorem aah {S : Nat → Prop} {Lo : List Obj} {v : TV} {u : Value} (hd : D1 P S γ Lo h (qP v) u) : DR P S γ Lo h (enc v) u := by
 cases v <;> first | exact hd | (exact hd.elim)
theorem afV {S : Nat → Prop} {Lo : List Obj} {v : TV} {u : Value} (h1 : ZQ v = true) (hd : DR P S γ Lo h (enc v) u) : D1 P S γ Lo h (qP v) u := by
 cases v <;> first | exact hd | (cases h1)
theorem a1a {t : TypeId} {m k : TV} {ok : Bool} {v u : Value} (H : Hp P h0 W0 γ (eL L) h) (hm : DR P (qd W0 γ (eL L) h) γ (eL L) h (enc m) v) (hk : DR P (qd W0 γ (eL L) h) γ (eL L) h (enc k) u)
  (e : (a3e P L t m k ok K).run = some z) : ∃ w, vZ P t h v u ok = some w ∧ J7 P h0 W0 γ L h K z w h := by
 unfold a3e at e
 split at e
 case h_2 => cases e
 rename_i kt et id kv hu
 split at e
 case h_2 => cases e
 rename_i es hL
 split at e
 case h_2 => cases e
 rename_i hok
 obtain ⟨b, g, ⟨_, _⟩, rfl⟩ := (show DB P (qd W0 γ (eL L) h) γ (eL L) h (.mref id) v from hm)
 have : u = kv := PR.scal (P := P) (S := qd W0 γ (eL L) h) (h := h) hk
 subst this
 obtain ⟨b', mes, ck, g', hg, ha⟩ := (show OR P (qd W0 γ (eL L) h) γ (eL L) h id (.mp (es.map fun x => (x.1, qP x.2))) from H.obj id _ (qX hL))
 rw [g] at g'; cases g'
 have fin : ∀ {d : TV} {w : Value}, (K d L).run = some z → DR P (qd W0 γ (eL L) h) γ (eL L) h (enc d) w → J7 P h0 W0 γ L h K z w h := fun h1 h2 => ⟨γ, _, _, h1, H, Carry.refl _ _ _, h2⟩
 unfold vZ
 simp only [hu, we, hg, hok, if_true]
 rcases a0m hok 0 e ha with ⟨h1, h2⟩ | ⟨j, w, x, h1, h2, h3⟩
 ·simp only [h1]
  replace h2 := q8 h2; obtain ⟨zv, hz, h2⟩ := h2
  replace h2 := q8 h2; obtain ⟨zt, hzt, h2⟩ := h2
  obtain ⟨c1, c2⟩ := aeM (P := P) (γ := γ) (h := h) (S := qd W0 γ (eL L) h) (Lo := eL L) hzt
  simp only [hz, c1, if_true]
  cases ok with
  | true => exact ⟨_, rfl, fin h2 (aep c2)⟩
  | false => exact ⟨_, rfl, fin h2 (aah c2)⟩
 ·simp only [h1]
  cases ok with
  | true => exact ⟨_, rfl, fin h3 (aep h2)⟩
  | false => exact ⟨_, rfl, fin h3 (aah h2)⟩
theorem YD {t : TypeId} {m k x : TV} {v u w : Value} {Ks : List TO → Tree R} (H : Hp P h0 W0 γ (eL L) h) (hm : DR P (qd W0 γ (eL L) h) γ (eL L) h (enc m) v) (hk : DR P (qd W0 γ (eL L) h) γ (eL L) h (enc k) u) (hx : DR P (qd W0 γ (eL L) h) γ (eL L) h (enc x) w)
  (e : (a3b P L t m k x Ks).run = some z) : ∃ h' L' id b, WO P t h v u w = some h' ∧ Hp P h0 W0 γ (eL L') h' ∧ Carry W0 γ (eL L) h γ (eL L') h' ∧ (Ks L').run = some z ∧ γ id = some (b, 0) ∧ (∃ es, (eL L)[id]? = some (.mp es)) ∧ ∀ b', b' ≠ b → h'.get b' = h.get b' := by
 unfold a3b at e
 split at e
 case h_2 => cases e
 rename_i kt et id kv hu
 split at e
 case h_2 => cases e
 rename_i es hL
 split at e
 case h_2 => cases e
 rename_i hc
 simp only [Bool.and_eq_true] at hc
 obtain ⟨⟨hok, hfr⟩, h1x⟩ := hc
 obtain ⟨b, g, ⟨_, _⟩, rfl⟩ := (show DB P (qd W0 γ (eL L) h) γ (eL L) h (.mref id) v from hm)
 have : u = kv := PR.scal (P := P) (S := qd W0 γ (eL L) h) (h := h) hk
 subst this
 have hi := qX hL
 obtain ⟨b', mes, ck, g', hg, ha⟩ := (show OR P (qd W0 γ (eL L) h) γ (eL L) h id (.mp (es.map fun x => (x.1, qP x.2))) from H.obj id _ hi)
 rw [g] at g'; cases g'
 have hf := xR hok 0 hfr ha
 have c : Carry W0 γ (eL L) h γ ((eL L).set id (ko (.mp (es ++ [(u, x)])))) (h.set b (.map (mes ++ [⟨u, w, ck⟩]) (ck + 1))) := by
  refine wH hi (.inl rfl) (fun _ _ => rfl) (fun c q => ?_) (fun _ q => ?_) (Nat.le_refl _) (fun _ _ q _ => .inl q) (fun b2 _ q => ?_) (fun c q => ⟨rfl, _, rfl⟩)
  ·cases q
  ·exact q.elim
  ·exact Heap.get_set_ne _ _ fun q2 => q 0 (by rw [q2]; exact g)
 refine ⟨h.set b (.map (mes ++ [⟨u, w, ck⟩]) (ck + 1)), L.set id (.mp (es ++ [(u, x)])), id, b, ?_, ?_, ?_, e, g, ⟨_, hi⟩, fun b2 q => Heap.get_set_ne _ _ q⟩
 ·unfold WO
  simp only [hu, hg, hok, if_true, hf, a7x, a8u]
 ·rw [Z7]
  refine Hp.write H hi (.inl rfl) c (fun _ _ => rfl) (Nat.le_refl _) (fun _ _ q => .inl ⟨_, q⟩) (fun _ _ => (List.getElem?_eq_some_iff.1 hi).1) (fun b2 _ q => Heap.get_set_ne _ _ fun q2 => q 0 (by rw [q2]; exact g)) ?_
  refine ⟨b, _, _, g, Heap.get_set_self hg, ?_⟩
  rw [List.map_append]
  exact (ha.mono fun _ _ q => ⟨q.1, c.d1 q.2⟩).append (.cons ⟨rfl, c.d1 (afV h1x hx)⟩ .nil)
 ·rw [Z7]; exact c
theorem Ud {t : TypeId} (H : Hp P h0 W0 γ (eL L) h) (e : (a0r P L t K).run = some z) : (∃ a b, P.underlying t = some (.map a b)) ∧ J7 P h0 W0 γ L h K z (.map (some h.next)) (h.push (.map [] 0)) := by
 unfold a0r at e
 split at e
 case h_2 => cases e
 rename_i a b hu
 refine ⟨⟨a, b, hu⟩, yb γ (eL L).length h.next, _, _, e, ?_, ?_, ?_⟩
 ·rw [jl]
  exact Hp.push H ⟨h.next, [], 0, by simp [yb], by rw [Heap.get_push, if_pos rfl], .nil⟩
 ·rw [jl]
  exact Jh H.dom _ _
 ·refine ⟨h.next, ?_, ⟨[], ?_⟩, rfl⟩
  ·rw [← zA L]; simp [yb]
  ·rw [jl, ← zA L, List.getElem?_append_right (Nat.le_refl _), Nat.sub_self]; rfl
theorem a0S {ty : TypeId → Option CT} {t : TypeId} (H : Hp P h0 W0 γ (eL L) h) (e : (a40 P ty L t K).run = some z) :
  ∃ q mk, j0 P t 0 [] = some (q, mk) ∧ J7 P h0 W0 γ L h K z (mk h.next) (h.push q) := by
 unfold a40 at e
 split at e
 case h_2 => cases e
 rename_i te hu
 replace e := q8 e; obtain ⟨c, hc, e⟩ := e
 replace e := q8 e; obtain ⟨zc, hz, e⟩ := e
 split at e
 case isFalse => cases e
 rename_i hs
 have hfill : Instr.fill (fun i => some (i * c.size, c.size)) (wb zc 0).toArray [] = some (wb zc 0).toArray := rfl
 refine ⟨.cells (wb zc 0).toArray.toList te true, qr 0 0, ?_, ?_⟩
 ·unfold j0
  simp only [hu, hz, hs, hfill]
  rw [if_pos ⟨by omega, CT.size_pos c, by omega⟩]
 ·obtain ⟨H1, c1⟩ := H.grow (h' := h.push (.cells (wb zc 0).toArray.toList te true)) (by simp) (fun b hb => Heap.get_push_ne _ _ (by omega))
  obtain ⟨a1, a2, a3⟩ := xE H1 (v := .slice (some ⟨h.next, 0, none⟩) 0 0) (.inr ⟨_, _, rfl⟩)
  rw [show ([Obj.li none []] : List Obj) = [ko (TO.li c te false [])] from rfl, ← jl] at a1 a2
  refine ⟨γ, _, _, e, a1, c1.trans' a2, ?_⟩
  rw [u7, jl, ← zA L]
  exact a3
theorem VY {ty : TypeId → Option CT} {call : yc R} {wr : TWr} (hcall : TCallOk P call wr) {o : Op} {ρ : KB} {r : Rho} (H : Hp P h0 W0 γ (eL L) h) (hρ : xy P W0 γ (eL L) h (ZW ρ) r) (e : (top P ty call o ρ L K).run = some z) : qy P o r h (J7 P h0 W0 γ L h K z) := by
 unfold top at e
 split at e
 ·rename_i t
  obtain ⟨⟨a, b, hu⟩, q⟩ := Ud H e
  simp only [qy, w4, hu]
  exact q
 ·rename_i t x y z'
  replace e := q8 e; obtain ⟨m, h1, e⟩ := e
  replace e := q8 e; obtain ⟨k, h2, e⟩ := e
  replace e := q8 e; obtain ⟨v, h3, e⟩ := e
  obtain ⟨v1, e1, r1⟩ := zP hρ h1
  obtain ⟨v2, e2, r2⟩ := zP hρ h2
  obtain ⟨v3, e3, r3⟩ := zP hρ h3
  obtain ⟨h', L', _, _, q1, q2, q3, q4, _⟩ := YD H r1 r2 r3 e
  simp only [qy, e1, e2, e3, q1]
  exact ⟨γ, _, _, q4, q2, q3, ⟨#[], rfl, .nil⟩⟩
 ·rename_i t x y ok
  replace e := q8 e; obtain ⟨m, h1, e⟩ := e
  replace e := q8 e; obtain ⟨k, h2, e⟩ := e
  obtain ⟨v1, e1, r1⟩ := zP hρ h1
  obtain ⟨v2, e2, r2⟩ := zP hρ h2
  obtain ⟨w, q1, q2⟩ := a1a H r1 r2 e
  simp only [qy, e1, e2, q1]
  exact q2
 ·rename_i t n ps
  split at e
  ·rename_i hc
   simp only [Bool.and_eq_true, decide_eq_true_eq, List.isEmpty_iff] at hc
   obtain ⟨rfl, hps⟩ := hc
   obtain ⟨q, mk, q1, q2⟩ := a0S H e
   have : w4 P (.buildSlice t 0 ps) r = some (q, mk) := by
    simp only [w4, hps, JC]
    exact q1
   simp only [qy, this]
   exact q2
  ·exact uS hcall H hρ e
 ·exact uS hcall H hρ e
end
end Go.Sim
namespace Go.Sim
open Go.RowKit
def vq : List UInt8 → List UInt8 → Bool
 | [], [] => true
 | a :: r, b :: s => a.toNat == b.toNat && vq r s
 | _, _ => false
theorem Wu : ∀ {r s : List UInt8}, vq r s = true → r = s
 | [], [], _ => rfl
 | a :: r, b :: s, h => by
  simp only [vq, Bool.and_eq_true, beq_iff_eq] at h
  rw [UInt8.toNat_inj.1 h.1, Wu h.2]
 | [], _ :: _, h => by cases h
 | _ :: _, [], h => by cases h
def ae0 : IntKind → IntKind → Bool := fun a b => decide (a = b)
def a3w (a b : Option Addr) : Bool :=
 match a, b with
 | none, none => true
 | some ⟨x, y, none⟩, some ⟨x', y', none⟩ => x == x' && y == y'
 | _, _ => false
theorem Vr {a b : Option Addr} (h : a3w a b = true) : a = b := by
 unfold a3w at h
 split at h
 ·rfl
 ·simp only [Bool.and_eq_true, beq_iff_eq] at h
  rw [h.1, h.2]
 ·cases h
mutual
def jr : Value → Value → Bool
 | .bool a, .bool b => a == b
 | .int k n, .int k' n' => ae0 k k' && decide (n = n')
 | .string s, .string t => vq s.data.toList t.data.toList
 | .pointer a, .pointer b => a3w a b
 | .slice a n c, .slice a' n' c' => a3w a a' && n == n' && c == c'
 | .map a, .map b => decide (a = b)
 | .chan a, .chan b => decide (a = b)
 | .func (.func k) ⟨f⟩ ⟨c⟩, .func (.func k') ⟨f'⟩ ⟨c'⟩ => k == k' && Ja f f' && Ja c c'
 | .nilFunc, .nilFunc => true
 | .iface t v, .iface t' v' => t == t' && jr v v'
 | .nilIface, .nilIface => true
 | .agg ⟨a⟩, .agg ⟨b⟩ => Ja a b
 | .tuple ⟨a⟩, .tuple ⟨b⟩ => Ja a b
 | _, _ => false
def Ja : List Value → List Value → Bool
 | [], [] => true
 | a :: r, b :: s => jr a b && Ja r s
 | _, _ => false
end
mutual
theorem yX : ∀ (a b : Value), jr a b = true → a = b
 | .bool a, b, h => by
  cases b <;> simp_all [jr]
 | .int k n, b, h => by
  cases b <;> simp_all [jr, ae0]
 | .string s, b, h => by
  cases b <;> simp only [jr] at h <;> try (cases h; done)
  rename_i t
  have := Wu h
  obtain ⟨⟨s⟩⟩ := s
  obtain ⟨⟨t⟩⟩ := t
  simp only at this
  rw [this]
 | .pointer a, b, h => by
  cases b <;> simp only [jr] at h <;> try (cases h; done)
  rw [Vr h]
 | .slice a n c, b, h => by
  cases b <;> simp only [jr, Bool.and_eq_true, beq_iff_eq] at h <;> try (cases h; done)
  rw [Vr h.1.1, h.1.2, h.2]
 | .map a, b, h => by
  cases b <;> simp_all [jr]
 | .chan a, b, h => by
  cases b <;> simp_all [jr]
 | .func f fs cs, b, h => by
  obtain ⟨fs⟩ := fs
  obtain ⟨cs⟩ := cs
  cases f <;> cases b <;> try (simp only [jr] at h; cases h; done)
  rename_i k f' fs' cs'
  obtain ⟨fs'⟩ := fs'
  obtain ⟨cs'⟩ := cs'
  cases f' <;> simp only [jr, Bool.and_eq_true, beq_iff_eq] at h <;> try (cases h; done)
  rw [h.1.1, wV _ _ h.1.2, wV _ _ h.2]
 | .nilFunc, b, h => by
  cases b <;> simp_all [jr]
 | .iface t v, b, h => by
  cases b <;> simp only [jr, Bool.and_eq_true, beq_iff_eq] at h <;> try (cases h; done)
  rw [h.1, yX _ _ h.2]
 | .nilIface, b, h => by
  cases b <;> simp_all [jr]
 | .agg a, b, h => by
  obtain ⟨a⟩ := a
  cases b <;> try (simp only [jr] at h; cases h; done)
  rename_i b
  obtain ⟨b⟩ := b
  rw [wV a b (by simpa only [jr] using h)]
 | .tuple a, b, h => by
  obtain ⟨a⟩ := a
  cases b <;> try (simp only [jr] at h; cases h; done)
  rename_i b
  obtain ⟨b⟩ := b
  rw [wV a b (by simpa only [jr] using h)]
 | .float _ _, b, h => by cases b <;> simp [jr] at h
 | .complex _ _ _, b, h => by cases b <;> simp [jr] at h
theorem wV : ∀ (a b : List Value), Ja a b = true → a = b
 | [], b, h => by cases b <;> simp_all [Ja]
 | x :: r, b, h => by
  cases b with
  | nil => simp [Ja] at h
  | cons y s =>
   simp only [Ja, Bool.and_eq_true] at h
   rw [yX x y h.1, wV r s h.2]
end
end Go.Sim
namespace Go.Sim
open Go.RowKit
def TFrm.know (a : TFrm) (x : Operand) (b : Bool) : TFrm := match x with
 | .tmp t => ⟨a.n, a.c, (t, .v (.bool b)) :: a.l⟩
 | _ => a
def a2P {R : Type} (t : Option Tmp) (want : Bool) (a : TFrm) (A B : TFrm → Tree R) : Tree R := match t with
 | some t => match Zr t a.l with
  | some (.v (.bool b)) => .cond b (if want then A (a.know (.tmp t) true) else B (a.know (.tmp t) true)) (if want then B (a.know (.tmp t) false) else A (a.know (.tmp t) false))
  | some (.tup _) => B a
  | _ => .fail
 | none => .fail
section
variable (P : Program) (ty : TypeId → Option CT)
def tcW {R : Type} (call : yc R) : List C → (TFrm → List TO → Tree R) → TFrm → List TO → Tree R
 | [], K, a, L => K a L
 | c :: r, K, a, L => match c.g with
  | none => top P ty call c.op a.ev L (fun d L' => tcW call r K (a.put c.d d) L')
  | some (t, want) => a2P t want a (fun a => top P ty call c.op a.ev L (fun d L' => tcW call r K (a.put c.d d) L')) (fun a => tcW call r K (a.put c.d a8b) L)
def ahk (a : TFrm) : Option Tmp → Option TV
 | some t => Zr t a.l
 | none => none
def adh {R : Type} (o : Op) (ρ : KB) (L : List TO) (K : TV → Tree R) : Tree R :=
 match o with
 | .load t x => ql (ρ x) fun x => a5n P L t x K
 | .call { callee := .builtin .len, args := args, argTypes := ts } => match YO ρ args.toList, ts.toList with
  | some [x], [t] => aa5 P L t x K
  | _, _ => .fail
 | _ => .fail
def a9W {R : Type} (x y : Value) (o : Tree R) : Tree R := match x, y with
 | .int k n, .int k' m => if k = k' then tif (n = m) o else .fail
 | .bool a, .bool b => tif (a = b) o
 | .string a, .string b => tif (a = b) o
 | x, y => if jr x y = true then o else .fail
def aae {R : Type} : List TV → List TV → Tree R → Tree R
 | [], [], o => o
 | .v x :: l, .v y :: m, o => a9W x y (aae l m o)
 | _, _, _ => .fail
def afb {R : Type} (x y : TV) (o : Tree R) : Tree R := match x, y with
 | .v x, .v y => a9W x y o
 | .agg xs, .agg ys => aae xs ys o
 | .ptr id off, .ptr id' off' => if id = id' ∧ off = off' then o else .fail
 | _, _ => .fail
def adF {R : Type} (c : C) (a : TFrm) (L : List TO) (o : Tree R) : Tree R := adh P c.op a.ev L fun d => ql (ahk a c.d) fun d' => afb d d' o
abbrev xu := List (Nat × Nat × Nat × TypeId)
def pinned (pins : xu) (c : C) (a : TFrm) : Bool := match c.op, c.d with
 | .load t x, some d => match a.ev x with
  | some (.ptr id off) => pins.any fun q => q.1 == d && q.2.1 == id && q.2.2.1 == off && q.2.2.2 == t
  | _ => false
 | _, _ => false
def VC : Operand → Operand → Bool
 | .tmp a, .tmp b => a == b
 | .const (.int k n), .const (.int k' n') => decide (k = k') && decide (n = n')
 | _, _ => false
def Ve : Option Operand → Option Operand → Bool
 | none, none => true
 | some a, some b => VC a b
 | _, _ => false
def a99 : Op → Op → Bool
 | .load t x, .load t' x' => t == t' && VC x x'
 | .slice t x lo hi mx, .slice t' x' lo' hi' mx' => t == t' && VC x x' && Ve lo lo' && Ve hi hi' && Ve mx mx'
 | _, _ => false
def adc : Option (Option Tmp × Bool) → Option (Option Tmp × Bool) → Bool
 | none, none => true
 | some (some t, w), some (some t', w') => t == t' && w == w'
 | _, _ => false
def adR (q c : C) : Bool := q.d == c.d && a99 q.op c.op && adc q.g c.g
def a5A (o : Op) (d : Nat) : Bool := o.operands.toList.any fun x => match x with
 | .tmp t => t == d
 | _ => false
def a0b (g : Option (Option Tmp × Bool)) (d : Nat) : Bool := match g with
 | some (some t, _) => t == d
 | _ => false
def xB (q : C) (d : Nat) : Bool := q.d == some d || a5A q.op d || a0b q.g d
def Kn (c : C) (a : TFrm) : Bool := match c.d with
 | none => false
 | some d => decide (d < a.n) && !a5A c.op d && !a0b c.g d && match c.op with
  | .load _ x => (match a.ev x with
   | some (.dp _ _ _) => true
   | _ => false)
  | .slice _ x _ _ _ => (match a.ev x with
   | some (.sl _ _) => true
   | _ => false)
  | _ => false
def wG (p2 : List C) (c : C) (a : TFrm) : List C := (if Kn c a then [c] else []) ++ p2.filter fun q => match c.d with
 | some d => !xB q d
 | none => true
def a70 {R : Type} (pins : xu) (p2 : List C) (c : C) (a : TFrm) (L : List TO) (o : Tree R) : Tree R := match pinned pins c a || p2.any (adR · c) with
 | true => o
 | false => adF P c a L o
def afm {R : Type} (pins : xu) (p2 : List C) (c : C) (a : TFrm) (L : List TO) (o : Tree R) : Tree R := match c.g with
 | none => a70 P pins p2 c a L o
 | some (some t, want) => match Zr t a.l with
  | some (.v (.bool b)) => .cond b (if want then a70 P pins p2 c a L o else o) (if want then o else a70 P pins p2 c a L o)
  | some (.tup _) => o
  | _ => .fail
 | some (none, _) => .fail
def Jo {R : Type} (pins : xu) (p2 : List C) (a : TFrm) (L : List TO) : List C → Tree R → Tree R
 | [], o => o
 | c :: r, o => afm P pins p2 c a L (Jo pins p2 a L r o)
def wrT (wr : FuncId → List TV → List TO → List Nat) (o : Op) (ρ : KB) (L : List TO) : Option (List Nat) := match o with
 | .store _ x _ => match ρ x with
  | some (.ptr id _) => some [id]
  | some (.ep _ _ _ _) => some []
  | _ => none
 | .insert _ _ _ _ => some []
 | .makeMap _ _ => some []
 | .lookup _ _ _ _ => some []
 | .call { callee := .value f, args := args, argTypes := _ } => match ρ f, YO ρ args.toList with
  | some (.fn k pre cap), some ds => some (wr k (pre ++ ds ++ cap) L)
  | _, _ => none
 | .call { callee := .builtin .append, args := _, argTypes := _ } => some []
 | .call { callee := .builtin .len, args := _, argTypes := _ } => some []
 | .call { callee := .builtin .min, args := _, argTypes := _ } => some []
 | .call { callee := .builtin .max, args := _, argTypes := _ } => some []
 | .call _ => none
 | .move _ => some []
 | .assign _ => some []
 | .pick _ _ _ => some []
 | .build _ _ => some []
 | .field _ _ _ => some []
 | .fieldAddr _ _ _ => some []
 | .unOp _ _ _ => some []
 | .binOp _ _ _ _ _ => some []
 | .convert _ _ _ => some []
 | .makeFunc _ _ _ => some []
 | .indexAddr _ _ _ => some []
 | .index _ _ _ => some []
 | .extract _ _ => some []
 | .nilCheck _ => some []
 | .load _ _ => some []
 | .slice _ _ _ _ _ => some []
 | .box _ _ => some []
 | .alloc _ => some []
 | .buildSlice _ _ _ => some []
 | _ => none
def kQ (wr : FuncId → List TV → List TO → List Nat) (pins : xu) (c : C) (a : TFrm) (L : List TO) : xu :=
 match wrT wr c.op a.ev L with
  | none => []
  | some ids => (match c.op, c.d with
   | .load t x, some d => (match a.ev x with
    | some (.ptr id off) => if d < a.n then [(d, id, off, t)] else []
    | _ => [])
   | _, _ => []) ++ pins.filter fun q => !(ids.contains q.2.1) && !(c.d == some q.1)
def a5Q (pins : xu) (c : C) : xu := pins.filter fun q => !(c.d == some q.1)
def tdW {R : Type} (call : yc R) (wr : FuncId → List TV → List TO → List Nat) : xu → List C → List (C × List C) → (TFrm → List TO → Tree R) → TFrm → List TO → Tree R
 | _, _, [], K, a, L => K a L
 | pins, p2, (c, ks) :: r, K, a, L => match c.g with
  | none => top P ty call c.op a.ev L (fun d L' => Jo P (kQ wr pins c a L) (wG p2 c a) (a.put c.d d) L' ks (tdW call wr (kQ wr pins c a L) (wG p2 c a) r K (a.put c.d d) L'))
  | some (t, want) => a2P t want a (fun a => top P ty call c.op a.ev L (fun d L' => Jo P (kQ wr pins c a L) (wG p2 c a) (a.put c.d d) L' ks (tdW call wr (kQ wr pins c a L) (wG p2 c a) r K (a.put c.d d) L'))) (fun a => Jo P (a5Q pins c) (p2.filter fun q => match c.d with | some d => !xB q d | none => true) (a.put c.d a8b) L ks (tdW call wr (a5Q pins c) (p2.filter fun q => match c.d with | some d => !xB q d | none => true) r K (a.put c.d a8b) L))
end
def ya {σ T : Type} (step : σ → Option (σ ⊕ T)) : Nat → σ → Option T
 | 0, _ => none
 | n + 1, s => match step s with
  | some (.inl s') => ya step n s'
  | some (.inr t) => some t
  | none => none
open Classical in
noncomputable def qT {σ T : Type} (step : σ → Option (σ ⊕ T)) (s : σ) : Option T := if h : ∃ n t, ya step n s = some t then some (Classical.choose (Classical.choose_spec h)) else none
theorem vg {σ T : Type} {step : σ → Option (σ ⊕ T)} : ∀ {n m : Nat} {s : σ} {t : T}, n ≤ m → ya step n s = some t → ya step m s = some t
 | 0, _, _, _, _, h => by cases h
 | n + 1, 0, _, _, hl, _ => by omega
 | n + 1, m + 1, s, t, hl, h => by
  unfold ya at h ⊢
  cases hs : step s with
  | none => simp only [hs] at h; cases h
  | some x =>
   cases x with
   | inl s' => simp only [hs] at h ⊢; exact vg (by omega) h
   | inr t' => simp only [hs] at h ⊢; exact h
theorem YS {σ T : Type} {step : σ → Option (σ ⊕ T)} {s : σ} {t : T} : qT step s = some t ↔ ∃ n, ya step n s = some t := by
 unfold qT
 constructor
 ·intro h
  split at h
  ·rename_i hx
   cases h
   exact ⟨Classical.choose hx, Classical.choose_spec (Classical.choose_spec hx)⟩
  ·cases h
 ·rintro ⟨n, h⟩
  have hx : ∃ n t, ya step n s = some t := ⟨n, t, h⟩
  rw [dif_pos hx]
  have h2 := Classical.choose_spec (Classical.choose_spec hx)
  have a := vg (Nat.le_max_left n (Classical.choose hx)) h
  have b := vg (Nat.le_max_right n (Classical.choose hx)) h2
  rw [a] at b
  exact b.symm
theorem uI {σ T : Type} (step : σ → Option (σ ⊕ T)) (s : σ) : qT step s = match step s with
  | some (.inl s') => qT step s'
  | some (.inr t) => some t
  | none => none := by
 have key : ∀ t, qT step s = some t ↔ (match step s with
  | some (.inl s') => qT step s'
  | some (.inr t) => some t
  | none => none) = some t := by
  intro t
  rw [YS]
  cases hs : step s with
  | none =>
   simp only
   constructor
   ·rintro ⟨n, h⟩
    cases n with
    | zero => cases h
    | succ n => unfold ya at h; rw [hs] at h; cases h
   ·intro h; cases h
  | some x =>
   cases x with
   | inl s' =>
    simp only
    rw [YS]
    constructor
    ·rintro ⟨n, h⟩
     cases n with
     | zero => cases h
     | succ n => unfold ya at h; simp only [hs] at h; exact ⟨n, h⟩
    ·rintro ⟨n, h⟩
     exact ⟨n + 1, by unfold ya; simp only [hs]; exact h⟩
   | inr t' =>
    simp only
    constructor
    ·rintro ⟨n, h⟩
     cases n with
     | zero => cases h
     | succ n => unfold ya at h; simp only [hs] at h; exact h
    ·intro h
     exact ⟨1, by unfold ya; simp only [hs]; exact h⟩
 cases h1 : qT step s with
 | some t => exact ((key t).1 h1).symm
 | none =>
  cases h2 : (match step s with
   | some (.inl s') => qT step s'
   | some (.inr t) => some t
   | none => none) with
  | none => rfl
  | some t => rw [(key t).2 h2] at h1; cases h1
structure Shp where
 σ : Type
 F : σ → List (Nat × TV)
 G : σ → List TO
 dec : TFrm → List TO → Option (σ × List (Nat × Nat))
structure TEnv where
 P : Program
 ty : TypeId → Option CT
 call : ∀ R : Type, yc R
 wr : FuncId → List TV → List TO → List Nat
 loops : Nat → Option Shp
 joins : Nat → Option Shp
 unr : Nat → Nat
abbrev TK (R : Type) := Exit → TFrm → List TO → Tree R
def xU {R : Type} (k : TFrm → List TO → Tree R) (K : TK R) : TK R
 | .normal, a, L => k a L
 | e, a, L => K e a L
def a7r {R : Type} (id : Nat) (K : TK R) : TK R
 | .exit id', a, L => if id' = id then K .normal a L else K (.exit id') a L
 | e, a, L => K e a L
def Je {R : Type} (S : Shp) (n c : Nat) (K : TK R) : TK (S.σ ⊕ R)
 | .normal, a, L => if a.n = n ∧ a.c = c then ql (S.dec a L) fun p => chk p.2 (.ret (.inl p.1)) else .fail
 | e, a, L => (K e a L).map .inr
def tgo {R : Type} (S : Shp) (n c : Nat) (K : TK R) : TK (S.σ ⊕ R)
 | .goto _, a, L => if a.n = n ∧ a.c = c then ql (S.dec a L) fun p => chk p.2 (.ret (.inl p.1)) else .fail
 | e, a, L => (K e a L).map .inr
noncomputable def a1I {R : Type} (S : Shp) (body : TFrm → List TO → Tree (S.σ ⊕ R)) (a : TFrm) (L : List TO) : Tree R :=
 ql (S.dec a L) fun p => chk p.2 (Wx (qT (fun s => (body ⟨a.n, a.c, S.F s⟩ (S.G s)).run) p.1) .ret)
def tun {R : Type} (body : TK R → TFrm → List TO → Tree R) (K : TK R) : Nat → TFrm → List TO → Tree R
 | 0, _, _ => .fail
 | n + 1, a, L => body (fun e a L => match e with
  | .normal => tun body K n a L
  | e => K e a L) a L
noncomputable def Vb (shp : Nat → Option Shp) (lab : ∀ R : Type, TK R → Nat → TFrm → List TO → Tree R) : Nat → Option Nat → (R : Type) → TK R → TK R
 | 0, _, _, K => fun e a L => match e with
  | .goto _ => .fail
  | e => K e a L
 | f + 1, cur, R, K => fun e a L => match e with
  | .goto l => if cur = some l then K (.goto l) a L else match shp l with
   | none => lab R (Vb shp lab f cur R K) l a L
   | some S => a1I S (fun a' L => lab (S.σ ⊕ R) (Vb shp lab f (some l) (S.σ ⊕ R) (tgo S a.n a.c K)) l a' L) a L
  | e => K e a L
noncomputable def a5w {R : Type} (S : Shp) (body : TK (S.σ ⊕ R) → TFrm → List TO → Tree (S.σ ⊕ R)) (k : TFrm → List TO → Tree R) (K : TK R) (a : TFrm) (L : List TO) : Tree R :=
 .bind (S.σ ⊕ R) (body (Je S a.n a.c K) a L).run fun s => .case S.σ R s (fun s => k ⟨a.n, a.c, S.F s⟩ (S.G s)) .ret
noncomputable def tx (E : TEnv) : X → Option Nat → Nat → (R : Type) → TK R → TFrm → List TO → Tree R
 | .lcons l z r, some l', p, R, K, a, L => if l' = l then tx E z none (8 * p + 1) R K a L else tx E r (some l') (8 * p + 2) R K a L
 | .nil, none, _, _, K, a, L => K .normal a L
 | .ret, none, _, _, K, a, L => K .ret a L
 | .exit id, none, _, _, K, a, L => K (.exit id) a L
 | .goto l, none, _, _, K, a, L => K (.goto l) a L
 | .reg l k, none, p, R, K, a, L => match E.joins p with
  | none => tcW E.P E.ty (E.call R) l (fun a L => tx E k none (8 * p + 1) R K a L) a L
  | some S => a5w S (fun K' a L => tcW E.P E.ty (E.call (S.σ ⊕ R)) l (fun a L => K' .normal a L) a L) (fun a L => tx E k none (8 * p + 1) R K a L) K a L
 | .draw l k, none, p, R, K, a, L => match E.joins p with
  | none => tdW E.P E.ty (E.call R) E.wr [] [] l (fun a L => tx E k none (8 * p + 1) R K a L) a L
  | some S => a5w S (fun K' a L => tdW E.P E.ty (E.call (S.σ ⊕ R)) E.wr [] [] l (fun a L => K' .normal a L) a L) (fun a L => tx E k none (8 * p + 1) R K a L) K a L
 | .cond c x y k, none, p, R, K, a, L => match a.ev c with
  | some (.v (.bool b)) => match E.joins p with
   | some S => a5w S (fun K' a L => .cond b (tx E x none (8 * p + 2) (S.σ ⊕ R) K' (a.know c true) L) (tx E y none (8 * p + 3) (S.σ ⊕ R) K' (a.know c false) L)) (fun a L => tx E k none (8 * p + 1) R K a L) K a L
   | none => .cond b (tx E x none (8 * p + 2) R (xU (fun a L => tx E k none (8 * p + 1) R K a L) K) (a.know c true) L) (tx E y none (8 * p + 3) R (xU (fun a L => tx E k none (8 * p + 1) R K a L) K) (a.know c false) L)
  | _ => .fail
 | .block id x k, none, p, R, K, a, L => match E.joins p with
  | none => tx E x none (8 * p + 2) R (a7r id (xU (fun a L => tx E k none (8 * p + 1) R K a L) K)) a L
  | some S => a5w S (fun K' a L => tx E x none (8 * p + 2) (S.σ ⊕ R) (a7r id K') a L) (fun a L => tx E k none (8 * p + 1) R K a L) K a L
 | .loop x k, none, p, R, K, a, L => match E.loops p with
  | some S => a1I S (fun a' L => tx E x none (8 * p + 2) (S.σ ⊕ R) (Je S a.n a.c (xU (fun a L => tx E k none (8 * p + 1) R K a L) K)) a' L) a L
  | none => tun (fun K' a L => tx E x none (8 * p + 2) R K' a L) (xU (fun a L => tx E k none (8 * p + 1) R K a L) K) (E.unr p) a L
 | .scope x labs k, none, p, R, K, a, L => tx E x none (8 * p + 2) R (Vb (fun l => E.loops (8 * (8 * p + 4) + l)) (fun R K l a L => tx E labs (some l) (8 * p + 3) R K a L) 20 none R (xU (fun a L => tx E k none (8 * p + 1) R K a L) K)) a L
 | .label _ k, none, p, R, K, a, L => tx E k none (8 * p + 1) R K a L
 | _, _, _, _, _, _, _ => .fail
end Go.Sim
namespace Go.Sim
open Go.RowKit
def Ug : List CT → Option CT
 | [] => none
 | [c] => some c
 | c :: r => (Ug r).map (.pair c)
def a7c (P : Program) : Nat → TypeId → Option CT
 | 0, _ => none
 | n + 1, t => match P.underlying t with
  | some (.int k) => some (.int k)
  | some .bool => some .bool
  | some .string => some .str
  | some (.slice e) => (a7c P n e).map .sl
  | some (.struct fs) => (fs.toList.mapM fun f => a7c P n f.type).bind Ug
  | some (.array len e) => (a7c P n e).bind fun c => Ug (List.replicate len c)
  | _ => none
def QC : Nat → List TV → List (Nat × TV)
 | _, [] => []
 | k, v :: vs => (k, v) :: QC (k + 1) vs
def a45 {R : Type} (P : Program) (a : TFrm) (L : List TO) : List ResultVar → (List TV → Tree R) → Tree R
 | [], K => K []
 | .tmp t :: r, K => ql (Zr t a.l) fun d => a45 P a L r fun ds => K (d :: ds)
 | .cell p t :: r, K => ql (Zr p a.l) fun x => a5n P L t x fun d => a45 P a L r fun ds => K (d :: ds)
def a1R : List TV → Option TV
 | [d] => some d
 | ds => if ds.all ZQ then some (.tup ds) else none
def aiM {R : Type} (P : Program) (rs : List ResultVar) (K : TV → List TO → Tree R) : TK R
 | .normal, a, L => a45 P a L rs fun ds => ql (a1R ds) fun d => K d L
 | .ret, a, L => a45 P a L rs fun ds => ql (a1R ds) fun d => K d L
 | _, _, _ => .fail
noncomputable def af8 {R : Type} (E : TEnv) (f : FuncId) (ds : List TV) (A : List TO) (K : TV → List TO → Tree R) : Tree R :=
 ql E.P.funcs[f]? fun fn => tx E (xOf E.P (UG fn) .nil) none 1 R (aiM E.P fn.results.toList K) ⟨fn.ntmps, A.length, QC 0 ds⟩ A
end Go.Sim
namespace Go.Sim
open Go.RowKit
def ahB : Op → Bool
 | .call { callee := .builtin .len, args := _, argTypes := _ } => true
 | .call { callee := .builtin .min, args := _, argTypes := _ } => true
 | .call { callee := .builtin .max, args := _, argTypes := _ } => true
 | .call _ => false
 | .move _ => true
 | .assign _ => true
 | .pick _ _ _ => true
 | .build _ _ => true
 | .field _ _ _ => true
 | .fieldAddr _ _ _ => true
 | .unOp _ _ _ => true
 | .binOp _ _ _ _ _ => true
 | .convert _ _ _ => true
 | .makeFunc _ _ _ => true
 | .indexAddr _ _ _ => true
 | .index _ _ _ => true
 | .extract _ _ => true
 | .nilCheck _ => true
 | .load _ _ => true
 | .slice _ _ _ _ _ => true
 | .box _ _ => true
 | .alloc _ => true
 | .buildSlice _ _ _ => true
 | .makeMap _ _ => true
 | .lookup _ _ _ _ => true
 | _ => false
def Kept (h h' : Heap) : Prop := ∀ b, b < h.next → h'.get b = h.get b
theorem Kept.refl (h : Heap) : Kept h h := fun _ _ => rfl
theorem Kept.push (h : Heap) (o : AObj) : Kept h (h.push o) := fun b hb => Heap.get_push_ne _ _ (by omega)
theorem a4V {P : Program} {s d : TypeId} {x : Value} {h : Heap} {K : Value → Heap → Prop} (q : wS P s d x h K) : wS P s d x h (fun v h' => K v h' ∧ Kept h h') := by
 unfold wS at q ⊢
 split at q
 ·refine ⟨q.1, ?_⟩
  have q2 := q.2
  split at q2
  ·exact ⟨q2, .refl _⟩
  ·exact q2.elim
 ·exact ⟨q.1, q.2.1, q.2.2.1, q.2.2.2, .push _ _⟩
 ·refine ⟨q.1, q.2.1, q.2.2.1, ?_⟩
  have q2 := q.2.2.2
  split at q2
  ·exact ⟨q2, .refl _⟩
  ·exact q2.elim
 ·split at q
  ·exact ⟨q, .refl _⟩
  ·exact q.elim
theorem ack {P : Program} {o : Op} {ρ : Rho} {h : Heap} {K : Value → Heap → Prop} (hq : ahB o = true) (q : qy P o ρ h K) : qy P o ρ h (fun v h' => K v h' ∧ Kept h h') := by
 unfold qy at q ⊢
 split at q <;> first
  | (cases hq; done)
  | (split at q <;> first
    | exact a4V q
    | exact ⟨q, .refl _⟩
    | exact ⟨q, .push _ _⟩
    | exact q.elim
    | (split at q <;> first | exact ⟨q, .refl _⟩ | exact ⟨q, .push _ _⟩ | exact q.elim))
theorem a6E {P : Program} {t : TypeId} {h h' : Heap} {p x : Value} (e : Q3 P t h p x = some h') : ∃ b i, p = .pointer (some ⟨b, i, none⟩) ∧ ∀ c, c ≠ b → h'.get c = h.get c := by
 unfold Q3 at e
 split at e
 ·rename_i b i
  split at e
  ·split at e
   ·cases e
    exact ⟨b, i, rfl, fun c hc => Heap.get_set_ne _ _ hc⟩
   ·cases e
  ·cases e
 ·cases e
theorem a2H {P : Program} {ts : List TypeId} {h h' : Heap} {s x v : Value} (e : jq P ts h s x = some (v, h')) : ∀ c, c < h.next → (∀ o n k, s = .slice (some ⟨c, o, none⟩) n k → n = 0 ∧ k = 0) → h'.get c = h.get c := by
 intro c hc hne
 unfold jq at e
 split at e
 ·split at e
  ·split at e
   ·split at e
    ·split at e
     ·split at e
      ·cases e; rfl
      ·split at e
       ·cases e; exact Heap.get_push_ne _ _ (by omega)
       ·cases e
     ·rename_i b o n k
      split at e
      ·cases e; rfl
      ·split at e
       ·cases e
       ·split at e
        ·split at e
         ·cases e; exact Heap.get_push_ne _ _ (by omega)
         rename_i h00
         split at e
         ·split at e
          ·split at e
           ·cases e; exact Heap.get_push_ne _ _ (by omega)
           ·split at e
            ·cases e
             have hcb : c ≠ b := fun q => h00 (hne o n k (by rw [q]))
             rw [Heap.get_push_ne _ _ (by simpa using Nat.ne_of_lt hc), Heap.get_kill_ne _ hcb]
            ·cases e
          ·cases e
         ·cases e
        ·cases e
     ·split at e
      ·split at e
       ·cases e; rfl
       ·split at e
        ·split at e
         ·split at e
          ·cases e; exact Heap.get_push_ne _ _ (by omega)
          ·cases e
         ·cases e
        ·cases e
      ·cases e
    ·cases e
   ·cases e
  ·cases e
 ·cases e
section
variable {R : Type} {P : Program} {γ : Pl} {L : List TO} {h : Heap} {h0 : Heap} {W0 : Ent} {z : R} {K : TV → List TO → Tree R}
theorem af9 (H : Hp P h0 W0 γ (eL L) h) {id b : Nat} (hg : γ id = some (b, 0)) (hs : ∃ c, (eL L)[id]? = some (.st c)) : b < h.next := by
 obtain ⟨c, hc⟩ := hs
 exact (OR.lt (fun b hb => hb.1) (H.obj id _ hc) hg rfl).1
theorem VKept.of (H : Hp P h0 W0 γ (eL L) h) {h' : Heap} (hk : Kept h h') (ids : List Nat) : VKept γ L h h' ids := fun id b hg hs _ => hk b (af9 H hg hs)
theorem Wc (H : Hp P h0 W0 γ (eL L) h) {id b : Nat} (hg : γ id = some (b, 0)) (hs : ∃ c, (eL L)[id]? = some (.st c)) {id' : Nat} {o' : Obj} {x : Nat} (hi : (eL L)[id']? = some o') (ho : o'.owns = true) (hn : ∀ c, o' ≠ .st c) : γ id' ≠ some (b, x) := by
 intro hg'
 obtain ⟨c, hc⟩ := hs
 have := H.inj id id' _ _ b 0 x hc hi rfl ho hg hg'
 subst this
 rw [hc] at hi; cases hi
 exact hn _ rfl
theorem a6K {ty : TypeId → Option CT} {ts : List TypeId} {s x : TV} (h : (vx P ty ts L s x K).run = some z) : s = .v (.slice none 0 0) ∨ ∃ id tot c e loc, ∃ xs : List (CT.T c), s = .ref id tot ∧ L[id]? = some (.li c e loc xs) ∧ xs.length = tot := by
 unfold vx at h
 split at h
 ·split at h
  ·replace h := q8 h; obtain ⟨i, _, h⟩ := h
   replace h := q8 h; obtain ⟨zc, _, h⟩ := h
   replace h := q8 h; obtain ⟨c, _, h⟩ := h
   split at h
   ·obtain ⟨ys, _, h⟩ := Z6 h
    split at h
    ·exact .inl rfl
    ·split at h
     ·rename_i id tot _ _ c' e' loc xs hL
      split at h
      ·split at h
       ·rw [qa] at h
        split at h
        ·rename_i hc
         exact .inr ⟨_, _, _, _, _, _, rfl, hL, hc.1⟩
        ·cases h
       ·cases h
      ·cases h
     ·cases h
    ·cases h
   ·cases h
  ·cases h
 ·cases h
theorem a9v {ty : TypeId → Option CT} {call : yc R} {wr : TWr} (hcall : TCallOk P call wr) {o : Op} {a : TFrm} {r : Rho} (H : Hp P h0 W0 γ (eL L) h) (hρ : xy P W0 γ (eL L) h (ZW a.ev) r) (e : (top P ty call o a.ev L K).run = some z) {ids : List Nat} (hw : wrT wr o a.ev L = some ids) :
  qy P o r h (fun v h' => J7 P h0 W0 γ L h K z v h' ∧ VKept γ L h h' ids) := by
 by_cases hq : ahB o = true
 ·exact Qy (fun v h' q => ⟨q.1, .of H q.2 ids⟩) (ack hq (VY hcall H hρ e))
 ·unfold wrT at hw
  split at hw
  ·-- store
   rename_i t x y
   unfold top at e
   simp only at e
   unfold a71 at e
   simp only at e
   unfold vC at e
   simp only at e
   replace e := q8 e; obtain ⟨p, h1, e⟩ := e
   replace e := q8 e; obtain ⟨q, h2, e⟩ := e
   obtain ⟨v, r1, d1⟩ := zP hρ h1
   obtain ⟨u, r2, d2⟩ := zP hρ h2
   obtain ⟨h', L', a1, b1, c1, hk⟩ := vH H d1 d2 e
   obtain ⟨bb, i, hp, hne⟩ := a6E a1
   simp only [qy, r1, r2, a1]
   refine ⟨⟨γ, _, L', hk, b1, c1, ⟨#[], rfl, .nil⟩⟩, fun id b hg hs hid => hne b ?_⟩
   rw [h1] at hw
   split at hw
   ·rename_i id0 off hx
    cases hx
    cases hw
    obtain ⟨b0, g0, s0, hv⟩ := d1
    rw [hv] at hp; cases hp
    intro q; subst q
    obtain ⟨c, hc⟩ := hs
    obtain ⟨c0, hc0⟩ := s0
    have := H.inj id id0 _ _ b 0 0 hc hc0 rfl rfl hg g0
    exact hid (by rw [this]; exact List.mem_cons_self)
   ·rename_i id0 i0 off0 tot0 hx
    cases hx
    cases hw
    unfold a3h at e
    simp only at e
    obtain ⟨k1, k2, k3⟩ := d1
    cases hf : a9l P L q with
    | mk x' rr =>
     obtain ⟨L1, qq⟩ := rr
     simp only [hf] at e
     split at e
     ·rename_i c te loc xs hL
      split at e
      ·rename_i hcond
       rw [qa] at e
       split at e
       ·rename_i ht
        replace e := ke e; obtain ⟨y', hy, e⟩ := e
        replace e := q8 e; obtain ⟨zz, hz, e⟩ := e
        replace e := zK e; obtain ⟨hqq, e⟩ := e
        obtain ⟨⟨H1, c2⟩, _⟩ := v4 H d2 hf hqq
        have d1' := c2.dr (show DR P (qd W0 γ (eL L) h) γ (eL L) h (.ep id0 i0 off0 tot0) v from ⟨k1, k2, k3⟩)
        obtain ⟨j1, j2, j3⟩ := d1'
        obtain ⟨m1, m2⟩ := j3 _ _ (qX hL) rfl
        obtain ⟨m3, m4⟩ := m2 (by simpa using ht)
        obtain ⟨b2, o2, g2, hv⟩ := m4 c.size (fun r hr => by obtain ⟨w, _, rfl⟩ := List.mem_map.1 hr; exact kd c w)
        rw [hv] at hp; cases hp
        intro q'; subst q'
        have hown : (ko (.li c te loc xs)).owns = true := by
         have : eo loc te xs.length = some te := by
          unfold eo; cases loc
          ·rw [if_neg (by decide), if_neg (by omega)]
          ·rfl
         show (Obj.li (eo loc te xs.length) _).owns = true
         rw [this]; rfl
        obtain ⟨g1, s1⟩ := c2.st id b hg hs
        exact Wc H1 g1 s1 (qX hL) hown (fun c q => by cases q) g2
       ·cases e
      ·cases e
     ·cases e
   ·cases hw
  ·-- insert
   rename_i t x y z'
   unfold top at e
   simp only at e
   replace e := q8 e; obtain ⟨m, h1, e⟩ := e
   replace e := q8 e; obtain ⟨k, h2, e⟩ := e
   replace e := q8 e; obtain ⟨v, h3, e⟩ := e
   obtain ⟨v1, e1, r1⟩ := zP hρ h1
   obtain ⟨v2, e2, r2⟩ := zP hρ h2
   obtain ⟨v3, e3, r3⟩ := zP hρ h3
   obtain ⟨h', L', id', b', q1, q2, q3, q4, q5, ⟨es, q6⟩, q7⟩ := YD H r1 r2 r3 e
   simp only [qy, e1, e2, e3, q1]
   exact ⟨⟨γ, _, _, q4, q2, q3, ⟨#[], rfl, .nil⟩⟩, fun id b hg hst _ => q7 b fun q => Wc H hg hst q6 rfl (fun c q => by cases q) (x := 0) (by rw [q5, q])⟩
  ·exact absurd rfl hq
  ·exact absurd rfl hq
  ·-- call
   rename_i f args tys
   unfold top at e
   simp only at e
   unfold a71 at e
   simp only at e
   unfold vC at e
   simp only at e
   replace e := q8 e; obtain ⟨fv, h1, e⟩ := e
   replace e := q8 e; obtain ⟨ds, h2, e⟩ := e
   split at e
   ·rename_i k pre cap
    split at e
    ·rename_i hb
     simp only [Bool.and_eq_true] at hb
     rw [h1, h2] at hw
     cases hw
     obtain ⟨v, e1, r1⟩ := zP hρ h1
     obtain ⟨vs, e3, r3⟩ := zh hρ (ds := ds.map enc) (by rw [kO, h2]; rfl)
     obtain ⟨as, bs, rfl, r4, r5⟩ := r1
     simp only [qy, e1, e3, Jg]
     have up : ∀ {ds : List DV} {vs : List Value}, All2 (DB P (qd W0 γ (eL L) h) γ (eL L) h) ds vs → All2 (DR P (qd W0 γ (eL L) h) γ (eL L) h) ds vs := fun hh => hh.mono fun d v hd => by
      cases d <;> first | exact hd | exact hd.elim
     have hc := hcall _ _ _ _ _ e h0 W0 γ h (as.toList ++ vs ++ bs.toList) H (by
      rw [List.map_append, List.map_append, (yz hb.1).2, (yz hb.2).2]
      exact ((up r4).append r3).append (up r5))
     exact hc.mono fun v h' q => ⟨ads q.1, q.2⟩
    ·cases e
   ·cases e
  ·-- append
   rename_i args tys
   cases hw
   unfold top at e
   simp only at e
   unfold a71 at e
   simp only at e
   split at e
   ·rename_i c xs x hxs
    obtain ⟨vs, e3, r3⟩ := zh hρ (ds := [.slx c xs, x].map enc) (by rw [kO, hxs]; rfl)
    cases r3 with
    | cons hd t => cases t with
     | cons hx t =>
      cases t
      obtain ⟨u, h', u1, u2, u3⟩ := Xp H hd hx e
      simp only [qy, e3, u1]
      exact ⟨u2, .of H u3 []⟩
   unfold vC at e
   simp only at e
   replace e := q8 e; obtain ⟨ds, h1, e⟩ := e
   split at e
   ·rename_i s x
    obtain ⟨d, L', h3, h4⟩ := X1 e
    obtain ⟨vs, e3, r3⟩ := zh hρ (ds := [s, x].map enc) (by rw [kO, h1]; rfl)
    cases r3 with
    | cons hs t => cases t with
     | cons hx t =>
      cases t
      obtain ⟨v', h', γ', e4, a1, a2, a3⟩ := YC H hs hx h3
      simp only [qy, e3, e4]
      refine ⟨⟨γ', d, L', h4, a1, a2, a3⟩, fun id b hg hst _ => a2H e4 b (af9 H hg hst) fun o n k q => ?_⟩
      rcases a6K e with rfl | ⟨id', tot, c, te, loc, xs, rfl, hL, hl⟩
      ·have hv : _ = Value.slice none 0 0 := PR.scal (P := P) (S := qd W0 γ (eL L) h) (h := h) hs
       rw [hv] at q; cases q
      ·obtain ⟨k1, k2, k3⟩ := (show DB P (qd W0 γ (eL L) h) γ (eL L) h (.ref id' 0 tot tot) _ from hs)
       obtain ⟨m1, m2⟩ := k3 _ _ (qX hL) rfl
       obtain ⟨m3, m4⟩ := m2 (by simpa using hl)
       rcases m4 c.size (fun r hr => by obtain ⟨w, _, rfl⟩ := List.mem_map.1 hr; exact kd c w) with ⟨hv | ⟨_, _, hv⟩, _, _⟩ | ⟨_, _, _, hv, q1, q2⟩ | ⟨b', o', c', g', hv, _⟩
       ·rw [hv] at q; cases q
       ·rw [hv] at q; cases q; exact ⟨rfl, rfl⟩
       ·omega
       ·rw [hv] at q
        cases q
        have hO := H.obj id' _ (qX hL)
        have hown : (ko (.li c te loc xs)).owns = true := by
         show (Obj.li (eo loc te xs.length) _).owns = true
         cases he : eo loc te xs.length with
         | some w => rfl
         | none =>
          have hO' : OR P (qd W0 γ (eL L) h) γ (eL L) h id' (.li (eo loc te xs.length) (xs.map (qF c))) := hO
          rw [he] at hO'
          rw [hO'.2] at g'; cases g'
        exact absurd g' (fun g' => Wc H hg hst (qX hL) hown (fun c q => by cases q) g')
   ·cases e
  all_goals first | (exact absurd rfl hq) | (cases hw; done)
end
end Go.Sim
namespace Go.Sim
open Go.RowKit
section
variable {R : Type} {P : Program} {ty : TypeId → Option CT} {h0 : Heap} {W0 : Ent}
structure Base where
 pl : Prop
 γ : Pl
 L : List Obj
 h : Heap
structure HB (P : Program) (h0 : Heap) (W0 : Ent) (B : Base) (γ : Pl) (L : List Obj) (h : Heap) : Prop where
 hp : Hp P h0 W0 γ L h
 ca : B.pl → Carry W0 B.γ B.L B.h γ L h
def Wm (P : Program) (h0 : Heap) (W0 : Ent) (B : Base) (K : TFrm → List TO → Prop) (fa : Frm) (h : Heap) : Prop := ∃ a L γ, K a L ∧ HB P h0 W0 B γ (eL L) h ∧ FR P W0 γ (eL L) h (zO a) fa
theorem HB.on {P : Program} {h0 : Heap} {W0 : Ent} {B : Base} {γ γ' : Pl} {L L' : List Obj} {h h' : Heap} (H : HB P h0 W0 B γ L h) (H' : Hp P h0 W0 γ' L' h') (c : Carry W0 γ L h γ' L' h') : HB P h0 W0 B γ' L' h' := ⟨H', fun q => (H.ca q).trans' c⟩
theorem W8 {γ : Pl} {L : List TO} {h : Heap} {a : TFrm} {fa : Frm} (hf : FR P W0 γ (eL L) h (zO a) fa) : xy P W0 γ (eL L) h (ZW a.ev) fa.ev := by
 rw [a3I]; exact hf.rho
theorem a4a {γ : Pl} {L : List TO} {h : Heap} {a : TFrm} {fa : Frm} (hf : FR P W0 γ (eL L) h (zO a) fa) {x : Operand} {b : Bool} (hx : a.ev x = some (.v (.bool b))) : FR P W0 γ (eL L) h (zO (a.know x b)) fa := by
 cases x with
 | tmp t =>
  refine ⟨hf.n, hf.cnt, fun u d e => ?_⟩
  have e' : (if t = u then some (enc (.v (.bool b))) else qQ u (a.l.map fun p => (p.1, enc p.2))) = some d := e
  split at e'
  ·rename_i hu
   subst hu
   cases e'
   exact hf.slots t _ (by show qQ t (a.l.map fun p => (p.1, enc p.2)) = _; rw [jj, show Zr t a.l = some (.v (.bool b)) from hx]; rfl)
  ·exact hf.slots u d e'
 | const v => exact hf
 | func f => exact hf
 | global g => exact hf
theorem a1D {γ : Pl} {L : List TO} {h : Heap} {a : TFrm} {fa : Frm} (hf : FR P W0 γ (eL L) h (zO a) fa) {t : Nat} {b : Bool} (hx : Zr t a.l = some (.v (.bool b))) : fa.get t = some (.bool b) := by
 obtain ⟨v, e1, r⟩ := hf.slots t (enc (.v (.bool b))) (by show qQ t (a.l.map fun p => (p.1, enc p.2)) = _; rw [jj, hx]; rfl)
 have : v = .bool b := PR.scal (P := P) (S := qd W0 γ (eL L) h) (h := h) r
 subst this
 exact e1
theorem a6a {γ : Pl} {L : List TO} {h : Heap} {a : TFrm} {fa : Frm} (hf : FR P W0 γ (eL L) h (zO a) fa) {t : Nat} {xs : List TV} (hx : Zr t a.l = some (.tup xs)) : ∃ vs, fa.get t = some (.tuple vs) := by
 obtain ⟨v, e1, vs, rfl, _⟩ := hf.slots t (enc (.tup xs)) (by show qQ t (a.l.map fun p => (p.1, enc p.2)) = _; rw [jj, hx]; rfl)
 exact ⟨vs, e1⟩
theorem Vo {γ : Pl} {L : List TO} {h : Heap} {a : TFrm} {fa : Frm} {t : Option Tmp} {want : Bool} {A B : TFrm → Tree R} {z : R} {X Y : Prop} (hf : FR P W0 γ (eL L) h (zO a) fa) (e : (a2P t want a A B).run = some z)
  (hA : ∀ a', FR P W0 γ (eL L) h (zO a') fa → (A a').run = some z → X) (hB : ∀ a', FR P W0 γ (eL L) h (zO a') fa → (B a').run = some z → Y) : zl (zE t want fa) X Y := by
 unfold a2P at e
 split at e
 ·rename_i t
  split at e
  ·rename_i b hb
   have hg : zE (some t) want fa = some (if want then b else !b) := by
    unfold zE
    simp only [a1D hf hb]
   rw [hg]
   have hk := a4a hf (x := .tmp t) (b := b) hb
   cases b <;> cases want <;> simp only [Tree.run, Bool.false_eq_true, if_false, if_true] at e <;> first
    | exact ⟨fun _ => hA _ hk e, fun q => by simp at q⟩
    | exact ⟨fun q => by simp at q, fun _ => hB _ hk e⟩
  ·rename_i xs hx
   obtain ⟨vs, hv⟩ := a6a hf hx
   have hg : zE (some t) want fa = some false := by
    unfold zE
    simp only [hv]
   rw [hg]
   exact ⟨fun q => by simp at q, fun _ => hB _ hf e⟩
  ·cases e
 ·cases e
theorem Ya {B : Base} {call : yc R} {wr : TWr} (hcall : TCallOk P call wr) : ∀ (l : List C) {K : TFrm → List TO → Tree R} {z : R} {Q : Frm → Heap → Prop} {γ : Pl} {L : List TO} {h : Heap} {a : TFrm} {fa : Frm}, (∀ fa h, Wm P h0 W0 B (fun a L => (K a L).run = some z) fa h → Q fa h) →
  HB P h0 W0 B γ (eL L) h → FR P W0 γ (eL L) h (zO a) fa → (tcW P ty call l K a L).run = some z → cWp P l Q fa h
 | [], K, z, Q, γ, L, h, a, fa, hQ, H, hf, e => hQ fa h ⟨a, L, γ, e, H, hf⟩
 | c :: r, K, z, Q, γ, L, h, a, fa, hQ, H, hf, e => by
  have go : ∀ a', FR P W0 γ (eL L) h (zO a') fa → (top P ty call c.op a'.ev L (fun d L' => tcW P ty call r K (a'.put c.d d) L')).run = some z → qy P c.op fa.ev h (fun v h' => cWp P r Q (fa.put c.d v) h') := fun a' hf' e =>
   Qy (fun v h' ⟨γ', d, L', k, H', c', hd⟩ => Ya hcall r hQ (H.on H' c') (by rw [Y8]; exact hf'.put c' hd c.d) k) (VY hcall H.hp (W8 hf') e)
  unfold tcW at e
  unfold cWp
  cases hg : c.g with
  | none => simp only [hg] at e ⊢; exact go a hf e
  | some p =>
   obtain ⟨t, want⟩ := p
   simp only [hg] at e ⊢
   exact Vo hf e (fun a' hf' e => go a' hf' e) (fun a' hf' e => Ya hcall r hQ H (by rw [Y8]; exact hf'.put (Carry.refl _ _ _) a5W c.d) e)
theorem aco {o : Op} {ρ : KB} {L : List TO} {K : TV → Tree R} {z : R} (e : (adh P o ρ L K).run = some z) : ∃ d, Wg P o (ZW ρ) (eL L) = some (enc d) ∧ (K d).run = some z := by
 unfold adh at e
 unfold Wg
 split at e
 ·replace e := q8 e; obtain ⟨x, hx, e⟩ := e
  obtain ⟨d, h1, h2⟩ := Yb e
  refine ⟨d, ?_, h2⟩
  simp only [qH hx]
  exact h1
 ·split at e
  ·rename_i x t hx ht
   obtain ⟨d, h1, h2⟩ := a1u e
   refine ⟨d, ?_, h2⟩
   simp only [kO, hx, Option.map_some, List.map_cons, List.map_nil, ht]
   exact h1
  ·cases e
 ·cases e
theorem xX {x y : Value} {o : Tree R} {z : R} (e : (a9W x y o).run = some z) : x = y ∧ o.run = some z := by
 unfold a9W at e
 split at e
 ·split at e
  ·rename_i hk
   rw [qa] at e
   split at e
   ·rename_i hn; rw [hk, hn]; exact ⟨rfl, e⟩
   ·cases e
  ·cases e
 ·rw [qa] at e
  split at e
  ·rename_i hn; rw [hn]; exact ⟨rfl, e⟩
  ·cases e
 ·rw [qa] at e
  split at e
  ·rename_i hn; rw [hn]; exact ⟨rfl, e⟩
  ·cases e
 ·split at e
  ·rename_i hn; exact ⟨yX _ _ hn, e⟩
  ·cases e
theorem Uv (x : Value) (l : List TV) : Xe (.v x :: l) = (Xe l).map (x :: ·) := rfl
theorem Xv : ∀ {l m : List TV} {o : Tree R} {z : R}, (aae l m o).run = some z → (∃ vs, Xe l = some vs ∧ Xe m = some vs) ∧ o.run = some z
 | l, m, o, z, e => by
  unfold aae at e
  split at e
  ·exact ⟨⟨[], rfl, rfl⟩, e⟩
  ·have h1 := xX e
   have h2 := Xv h1.2
   obtain ⟨⟨vs, h3, h4⟩, h5⟩ := h2
   have hxy := h1.1
   subst hxy
   exact ⟨⟨_, by rw [Uv, h3]; rfl, by rw [Uv, h4]; rfl⟩, h5⟩
  ·cases e
theorem a51 {x y : TV} {o : Tree R} {z : R} (e : (afb x y o).run = some z) : ((∃ v, XK x = some v ∧ XK y = some v) ∨ ∃ id off, x = .ptr id off ∧ y = .ptr id off) ∧ o.run = some z := by
 unfold afb at e
 split at e
 ·have h1 := xX e
  refine ⟨.inl ⟨_, rfl, ?_⟩, h1.2⟩
  rw [h1.1]; rfl
 ·obtain ⟨⟨vs, h1, h2⟩, h3⟩ := Xv e
  refine ⟨.inl ⟨.agg vs.toArray, ?_, ?_⟩, h3⟩
  ·unfold XK; simp only [h1]; rfl
  ·unfold XK; simp only [h2]; rfl
 ·split at e
  ·rename_i hc
   obtain ⟨rfl, rfl⟩ := hc
   exact ⟨.inr ⟨_, _, rfl, rfl⟩, e⟩
  ·cases e
 ·cases e
theorem a4R {c : C} {a : TFrm} {L : List TO} {o : Tree R} {z : R} (e : (adF P c a L o).run = some z) : uY P c (zO a) (eL L) ∧ o.run = some z := by
 unfold adF at e
 obtain ⟨d, h1, e⟩ := aco e
 replace e := q8 e; obtain ⟨d', h2, e⟩ := e
 obtain ⟨hs, e⟩ := a51 e
 refine ⟨?_, e⟩
 unfold uY
 have : a4X (zO a) c.d = some (enc d') := by
  unfold ahk at h2
  unfold a4X
  cases hc : c.d with
  | none => rw [hc] at h2; cases h2
  | some t =>
   rw [hc] at h2
   show qQ _ (a.l.map fun p => (p.1, enc p.2)) = _
   rw [jj, show Zr t a.l = some d' from h2]; rfl
 rcases hs with ⟨v, h3, h4⟩ | ⟨id, off, rfl, rfl⟩
 ·refine .inl ?_
  rw [← a3I, h1, qx, QT, h3, qx, this, qx, QT, h4, qx]
 ·exact .inr ⟨id, off, (by rw [← a3I]; exact h1), this⟩
def ahF (P : Program) (c : C) (fa : Frm) (h : Heap) : Prop := (Qf fa c.d).isSome = true ∧ qO P c.op fa.ev h = Qf fa c.d
def YM (P : Program) (pins : xu) (γ : Pl) (L : List TO) (h : Heap) (fa : Frm) : Prop := ∀ q ∈ pins, ∃ b v, γ q.2.1 = some (b, 0) ∧ (∃ c, (eL L)[q.2.1]? = some (.st c)) ∧ fa.get q.1 = some v ∧ j4 P q.2.2.2 h (.pointer (some ⟨b, q.2.2.1, none⟩)) = some v
def vW (g : Option (Option Tmp × Bool)) (fa : Frm) : Prop := match g with
 | none => True
 | some (t, w) => zE t w fa = some true
def PinF (P : Program) (W0 : Ent) (γ : Pl) (L : List TO) (h : Heap) (fa : Frm) (q : C) : Prop := vW q.g fa → ∃ d v, q.d = some d ∧ fa.get d = some v ∧ ∀ h', (∀ b, qd W0 γ (eL L) h b → h'.get b = h.get b) → qO P q.op fa.ev h' = some v
theorem vc {x y : Operand} (e : VC x y = true) : x = y := by
 unfold VC at e
 split at e
 ·rw [beq_iff_eq] at e; rw [e]
 ·simp only [Bool.and_eq_true, decide_eq_true_eq] at e; rw [e.1, e.2]
 ·cases e
theorem vn {x y : Option Operand} (e : Ve x y = true) : x = y := by
 unfold Ve at e
 split at e
 ·rfl
 ·rw [vc e]
 ·cases e
theorem ab2 {x y : Op} (e : a99 x y = true) : x = y := by
 unfold a99 at e
 split at e
 ·simp only [Bool.and_eq_true, beq_iff_eq] at e; rw [e.1, vc e.2]
 ·simp only [Bool.and_eq_true, beq_iff_eq] at e
  obtain ⟨⟨⟨⟨e1, e2⟩, e3⟩, e4⟩, e5⟩ := e
  rw [e1, vc e2, vn e3, vn e4, vn e5]
 ·cases e
theorem aee {x y : Option (Option Tmp × Bool)} (e : adc x y = true) : x = y := by
 unfold adc at e
 split at e
 ·rfl
 ·simp only [Bool.and_eq_true, beq_iff_eq] at e; rw [e.1, e.2]
 ·cases e
theorem adt {q c : C} (e : adR q c = true) : q.d = c.d ∧ q.op = c.op ∧ q.g = c.g := by
 unfold adR at e
 simp only [Bool.and_eq_true, beq_iff_eq] at e
 exact ⟨e.1.1, ab2 e.1.2, aee e.2⟩
theorem VU {fa : Frm} {d : Option Nat} {v : Value} {t : Nat} (h : ∀ u, d = some u → u ≠ t) : (fa.put d v).get t = fa.get t := by
 cases d with
 | none => rfl
 | some u =>
  have hne := h u rfl
  by_cases hlt : u < fa.n
  ·simp only [Frm.put, hlt, if_true, Frm.get, Kb]
   first | rw [if_neg hne] | rw [if_neg (Ne.symm hne)]
  ·simp only [Frm.put, hlt, if_false]
theorem aey {o : Op} {fa : Frm} {d : Option Nat} {v : Value} (h : ∀ u, d = some u → a5A o u = false) : ∀ x ∈ o.operands, (fa.put d v).ev x = fa.ev x := by
 intro x hx
 cases x with
 | tmp t =>
  refine VU fun u hu q => ?_
  have := h u hu
  unfold a5A at this
  rw [List.any_eq_false] at this
  have := this (.tmp t) (by simpa using hx)
  simp [q] at this
 | const v => rfl
 | func f => rfl
 | global g => rfl
theorem a6i {g : Option (Option Tmp × Bool)} {fa : Frm} {d : Option Nat} {v : Value} (h : ∀ u, d = some u → a0b g u = false) : vW g (fa.put d v) ↔ vW g fa := by
 unfold vW
 split
 ·exact Iff.rfl
 ·rename_i t w
  cases t with
  | none => exact Iff.rfl
  | some t =>
   have : (fa.put d v).get t = fa.get t := VU fun u hu q => by
    have := h u hu
    simp [a0b, q] at this
   unfold zE
   simp only [this]
theorem PinF.kept {P : Program} {W0 : Ent} {γ γ' : Pl} {L L' : List TO} {h h' : Heap} {fa : Frm} {q : C} (p : PinF P W0 γ L h fa q) (cc : Carry W0 γ (eL L) h γ' (eL L') h') {d : Option Nat} (v : Value) (hd : ∀ u, d = some u → xB q u = false) : PinF P W0 γ' L' h' (fa.put d v) q := by
 have hd' : ∀ u, d = some u → q.d ≠ some u ∧ a5A q.op u = false ∧ a0b q.g u = false := fun u hu => by
  have := hd u hu
  unfold xB at this
  simp only [Bool.or_eq_false_iff, beq_eq_false_iff_ne] at this
  exact ⟨this.1.1, this.1.2, this.2⟩
 intro hg
 obtain ⟨t, w, e1, e2, e3⟩ := p ((a6i fun u hu => (hd' u hu).2.2).1 hg)
 refine ⟨t, w, e1, ?_, fun h2 hh => ?_⟩
 ·rw [VU fun u hu q => (hd' u hu).1 (by rw [e1, q])]
  exact e2
 ·rw [Qu (aey fun u hu => (hd' u hu).2.1)]
  refine e3 h2 fun b hb => ?_
  rw [hh b (cc.free b hb).1, (cc.free b hb).2]
theorem a54 {P : Program} {W0 : Ent} {γ γ' : Pl} {L L' : List TO} {h h' : Heap} {fa : Frm} {p2 : List C} (p : ∀ q ∈ p2, PinF P W0 γ L h fa q) (cc : Carry W0 γ (eL L) h γ' (eL L') h') (d : Option Nat) (v : Value) :
  ∀ q ∈ p2.filter (fun q => match d with | some d => !xB q d | none => true), PinF P W0 γ' L' h' (fa.put d v) q := by
 intro q hq
 obtain ⟨h1, h2⟩ := List.mem_filter.1 hq
 refine (p q h1).kept cc v fun u hu => ?_
 subst hu
 simpa using h2
theorem a7E {P : Program} {t : TypeId} {h h' : Heap} {b i : Nat} (e : h'.get b = h.get b) : j4 P t h' (.pointer (some ⟨b, i, none⟩)) = j4 P t h (.pointer (some ⟨b, i, none⟩)) := by
 unfold j4 xL
 simp only [e]
theorem Zm {P : Program} {t : TypeId} {h h' : Heap} {a : Option Addr} {n c : Nat} {lo hi mx : Option Value} (e : ∀ b o, a = some ⟨b, o, none⟩ → c ≠ dud → ¬ (n = 0 ∧ c = 0) → h'.get b = h.get b) : z5 P (qU P h') t (.slice a n c) lo hi mx = z5 P (qU P h) t (.slice a n c) lo hi mx := by
 unfold z5
 split <;> first | rfl | skip
 rename_i e' b o n' c' hx hy
 cases hy
 by_cases hc : c = dud
 ·simp only [hc, if_true]
 ·by_cases h0 : n = 0 ∧ c = 0
  ·obtain ⟨rfl, rfl⟩ := h0
   simp
  ·have : qU P h' b = qU P h b := by unfold qU; rw [e b o rfl hc h0]
   simp only [this]
section
variable {γ : Pl} {L : List TO} {h : Heap} {a : TFrm} {fa : Frm} {pins : xu}
theorem X9 (H : Hp P h0 W0 γ (eL L) h) (hf : FR P W0 γ (eL L) h (zO a) fa) (hp : YM P pins γ L h fa) {p2 : List C} (hp2 : ∀ q ∈ p2, PinF P W0 γ L h fa q) {c : C} (hgo : vW c.g fa) {o : Tree R} {z : R} (e : (a70 P pins p2 c a L o).run = some z) : ahF P c fa h ∧ o.run = some z := by
 unfold a70 at e
 split at e
 ·rename_i hpin
  refine ⟨?_, e⟩
  rcases Bool.or_eq_true_iff.1 hpin with hpin | hpin
  case inr =>
   obtain ⟨q, hq, he⟩ := List.any_eq_true.1 hpin
   obtain ⟨s1, s2, s3⟩ := adt he
   obtain ⟨d, v, g1, g2, g3⟩ := hp2 q hq (by rw [s3]; exact hgo)
   have g3 := g3 h fun _ _ => rfl
   rw [s2] at g3
   rw [s1] at g1
   unfold ahF
   rw [g1]
   simp only [Qf, g2, g3]
   exact ⟨rfl, trivial⟩
  unfold pinned at hpin
  split at hpin
  ·rename_i t x d hop hd
   split at hpin
   ·rename_i id off hx
    obtain ⟨q, hq, he⟩ := List.any_eq_true.1 hpin
    simp only [Bool.and_eq_true, beq_iff_eq] at he
    obtain ⟨⟨⟨e1, e2⟩, e3⟩, e4⟩ := he
    obtain ⟨b, v, g1, g2, g3, g4⟩ := hp q hq
    rw [e1] at g3; rw [e2] at g1; rw [e3, e4] at g4
    obtain ⟨pv, r1, b', g', _, rfl⟩ := (W8 hf) x (enc (.ptr id off)) (qH hx)
    rw [g1] at g'; cases g'
    unfold ahF
    rw [hop, hd]
    simp only [Qf, qO, r1, g3, g4]
    exact ⟨by first | trivial | rfl, by first | trivial | rfl⟩
   ·cases hpin
  ·cases hpin
 ·obtain ⟨h1, h2⟩ := a4R e
  have : uQ P { c with g := none } fa h := a8I H hf (c := { c with g := none }) h1
  exact ⟨this, h2⟩
theorem a5z (H : Hp P h0 W0 γ (eL L) h) (hf : FR P W0 γ (eL L) h (zO a) fa) (hp : YM P pins γ L h fa) {p2 : List C} (hp2 : ∀ q ∈ p2, PinF P W0 γ L h fa q) {c : C} {o : Tree R} {z : R} (e : (afm P pins p2 c a L o).run = some z) : uQ P c fa h ∧ o.run = some z := by
 unfold afm at e
 unfold uQ
 split at e
 ·rename_i hg
  simp only [hg]
  exact X9 H hf hp hp2 (by rw [hg]; trivial) e
 ·rename_i t want hg
  simp only [hg]
  split at e
  ·rename_i b hb
   have hgd : zE (some t) want fa = some (if want then b else !b) := by
    unfold zE
    simp only [a1D hf hb]
   rw [hgd]
   cases b <;> cases want <;> simp only [Tree.run, Bool.false_eq_true, if_false, if_true] at e <;> first
    | exact ⟨.inl rfl, e⟩
    | (obtain ⟨q1, q2⟩ := X9 H hf hp hp2 (by rw [hg]; exact hgd) e; exact ⟨.inr q1, q2⟩)
  ·rename_i xs hx
   obtain ⟨vs, hv⟩ := a6a hf hx
   have hgd : zE (some t) want fa = some false := by
    unfold zE
    simp only [hv]
   exact ⟨.inl hgd, e⟩
  ·cases e
 ·cases e
theorem Yt (H : Hp P h0 W0 γ (eL L) h) (hf : FR P W0 γ (eL L) h (zO a) fa) (hp : YM P pins γ L h fa) {p2 : List C} (hp2 : ∀ q ∈ p2, PinF P W0 γ L h fa q) {z : R} {o : Tree R} : ∀ {ks : List C}, (Jo P pins p2 a L ks o).run = some z → wv P fa h ks ∧ o.run = some z
 | [], e => ⟨trivial, e⟩
 | c :: r, e => by
  obtain ⟨h1, e2⟩ := a5z H hf hp hp2 e
  obtain ⟨h2, e3⟩ := Yt H hf hp hp2 e2
  exact ⟨⟨h1, h2⟩, e3⟩
theorem uU {fa : Frm} {v : Value} {d : Option Nat} {t : Nat} (h : d ≠ some t) : (fa.put d v).get t = fa.get t := by
 cases d with
 | none => rfl
 | some d =>
  have hne : ¬ d = t := fun q => h (by rw [q])
  by_cases hlt : d < fa.n
  ·simp only [Frm.put, hlt, if_true, Frm.get, Kb]
   first | rw [if_neg hne] | rw [if_neg (Ne.symm hne)]
  ·simp only [Frm.put, hlt, if_false]
theorem uX {fa : Frm} {v : Value} {d : Nat} (h : d < fa.n) : (fa.put (some d) v).get d = some v := by
 unfold Frm.put
 simp only [h, if_true, Frm.get, Kb]
theorem a75 {P : Program} {t : TypeId} {h h' : Heap} {b i : Nat} (e : h'.get b = h.get b) : j4 P t h' (.pointer (some ⟨b, i, none⟩)) = j4 P t h (.pointer (some ⟨b, i, none⟩)) := by
 unfold j4 xL
 simp only [e]
end
def afk : Op → Bool
 | .load _ _ => true
 | .slice _ _ _ _ _ => true
 | _ => false
theorem aa3 {o : Op} {r : Rho} {h : Heap} {K : Value → Heap → Prop} (q : qy P o r h K) : qy P o r h (fun v h' => K v h' ∧ (afk o = true → qO P o r h = some v ∧ h' = h)) := by
 by_cases ho : afk o = true
 ·unfold afk at ho
  split at ho
  ·unfold qy at q ⊢
   simp only [qO]
   simp only at q ⊢
   split at q
   ·split at q
    ·rename_i h1 _ _ h2
     simp only [h1, h2]
     exact ⟨q, fun _ => ⟨trivial, trivial⟩⟩
    ·exact q.elim
   ·exact q.elim
  ·unfold qy at q ⊢
   simp only [qO]
   simp only at q ⊢
   split at q
   ·split at q
    ·rename_i h1 h2 h3 h4 _ _ h5
     simp only [h1, h2, h3, h4, h5]
     exact ⟨q, fun _ => ⟨trivial, trivial⟩⟩
    ·exact q.elim
   ·exact q.elim
  ·cases ho
 ·exact Qy (fun v h' k => ⟨k, fun e => absurd e ho⟩) q
theorem aeD {γ γ' : Pl} {L L' : List TO} {h : Heap} {a : TFrm} {fa : Frm} (hf : FR P W0 γ (eL L) h (zO a) fa) {c : C} (hr : Kn c a = true) {v : Value} (hv : qO P c.op fa.ev h = some v) (cc : Carry W0 γ (eL L) h γ' (eL L') h) : PinF P W0 γ' L' h (fa.put c.d v) c := by
 unfold Kn at hr
 split at hr
 ·cases hr
 ·rename_i d hd
  simp only [Bool.and_eq_true, decide_eq_true_eq, Bool.not_eq_true'] at hr
  obtain ⟨⟨⟨r1, r2⟩, r3⟩, r4⟩ := hr
  intro _
  refine ⟨d, v, hd, by rw [hd]; exact uX (by rw [hf.n]; exact r1), fun h2 hh => ?_⟩
  rw [Qu (aey fun u hu => by rw [hd] at hu; cases hu; exact r2)]
  have hfr : ∀ b, qd W0 γ (eL L) h b → h2.get b = h.get b := fun b hb => hh b (cc.free b hb).1
  split at r4
  ·rename_i t x hop
   split at r4
   ·rename_i hx
    obtain ⟨pv, q1, b, o, cs, e, rw', hS, hg, rfl, _⟩ := (W8 hf) x _ (qH hx)
    rw [hop] at hv ⊢
    simp only [qO, q1] at hv ⊢
    rw [a7E (hfr b hS)]
    exact hv
   ·cases r4
  ·rename_i t x lo hi mx hop
   split at r4
   ·rename_i ct xs hx
    obtain ⟨pv, q1, q2⟩ := (W8 hf) x _ (qH hx)
    have q2' : PR P (qd W0 γ (eL L) h) h (.sl ct.size (xs.map (qF ct))) pv := q2
    have key : ∀ l m n, z5 P (qU P h2) t pv l m n = z5 P (qU P h) t pv l m n := by
     intro l m n
     generalize hps : PV.sl ct.size (xs.map (qF ct)) = ps at q2'
     cases q2' with
     | v _ => cases hps
     | nil => exact Zm fun b o e => by cases e
     | dud => exact Zm fun b o e hc => absurd rfl hc
     | zero => exact Zm fun b o e hc h0 => absurd ⟨rfl, rfl⟩ h0
     | sl hS hb _ _ _ _ _ _ => exact Zm fun b o e _ _ => by cases e; exact hfr _ hS
    rw [hop] at hv ⊢
    simp only [qO, q1] at hv ⊢
    rw [← hv]
    cases wi fa.ev lo <;> cases wi fa.ev hi <;> cases wi fa.ev mx <;> first | rfl | exact key _ _ _
   ·cases r4
  ·cases r4
theorem a2x {c : C} {a : TFrm} (h : Kn c a = true) : afk c.op = true := by
 unfold Kn at h
 split at h
 ·cases h
 ·simp only [Bool.and_eq_true] at h
  obtain ⟨_, h⟩ := h
  split at h
  ·rename_i t x hop; rw [hop]; rfl
  ·rename_i t x lo hi mx hop; rw [hop]; rfl
  ·cases h
theorem YW {γ γ' : Pl} {L L' : List TO} {h h' : Heap} {a : TFrm} {fa : Frm} (hf : FR P W0 γ (eL L) h (zO a) fa) {c : C} {p2 : List C} (p : ∀ q ∈ p2, PinF P W0 γ L h fa q) {v : Value} (hv : afk c.op = true → qO P c.op fa.ev h = some v ∧ h' = h) (cc : Carry W0 γ (eL L) h γ' (eL L') h') : ∀ q ∈ wG p2 c a, PinF P W0 γ' L' h' (fa.put c.d v) q := by
 intro q hq
 unfold wG at hq
 rcases List.mem_append.1 hq with hq | hq
 ·split at hq
  ·rename_i hr
   rw [List.mem_singleton] at hq
   subst hq
   obtain ⟨h1, rfl⟩ := hv (a2x hr)
   exact aeD hf hr h1 cc
  ·simp at hq
 ·exact a54 p cc c.d v q hq
theorem xb {B : Base} {call : yc R} {wr : TWr} (hcall : TCallOk P call wr) : ∀ (l : List (C × List C)) {pins : xu} {p2 : List C} {K : TFrm → List TO → Tree R} {z : R} {Q : Frm → Heap → Prop} {γ : Pl} {L : List TO} {h : Heap} {a : TFrm} {fa : Frm}, (∀ fa h, Wm P h0 W0 B (fun a L => (K a L).run = some z) fa h → Q fa h) →
  HB P h0 W0 B γ (eL L) h → FR P W0 γ (eL L) h (zO a) fa → YM P pins γ L h fa → (∀ q ∈ p2, PinF P W0 γ L h fa q) → (tdW P ty call wr pins p2 l K a L).run = some z → dWp P l Q fa h
 | [], pins, p2, K, z, Q, γ, L, h, a, fa, hQ, H, hf, hp, hp2, e => hQ fa h ⟨a, L, γ, e, H, hf⟩
 | (c, ks) :: r, pins, p2, K, z, Q, γ, L, h, a, fa, hQ, H, hf, hp, hp2, e => by
  have fin : ∀ {γ' : Pl} {L' : List TO} {h' : Heap} {a' : TFrm} {fa' : Frm} {pins' : xu} {p2' : List C}, HB P h0 W0 B γ' (eL L') h' → FR P W0 γ' (eL L') h' (zO a') fa' → YM P pins' γ' L' h' fa' → (∀ q ∈ p2', PinF P W0 γ' L' h' fa' q) → (Jo P pins' p2' a' L' ks (tdW P ty call wr pins' p2' r K a' L')).run = some z → wv P fa' h' ks ∧ dWp P r Q fa' h' := by
   intro γ' L' h' a' fa' pins' p2' H' hf' hp' hp2' e'
   obtain ⟨h1, h2⟩ := Yt H'.hp hf' hp' hp2' e'
   exact ⟨h1, xb hcall r hQ H' hf' hp' hp2' h2⟩
  have nil : ∀ {γ' : Pl} {L' : List TO} {h' : Heap} {fa' : Frm}, YM P [] γ' L' h' fa' := fun q hq => by simp at hq
  show cWp P [c] (fun fa h => wv P fa h ks ∧ dWp P r Q fa h) fa h
  unfold tdW at e
  have run : ∀ {a : TFrm}, FR P W0 γ (eL L) h (zO a) fa → (top P ty call c.op a.ev L (fun d L' => Jo P (kQ wr pins c a L) (wG p2 c a) (a.put c.d d) L' ks (tdW P ty call wr (kQ wr pins c a L) (wG p2 c a) r K (a.put c.d d) L'))).run = some z →
    qy P c.op fa.ev h (fun v h' => cWp P [] (fun fa h => wv P fa h ks ∧ dWp P r Q fa h) (fa.put c.d v) h') := by
   intro a hf e
   cases hw : wrT wr c.op a.ev L with
   | none =>
    have hpa : kQ wr pins c a L = [] := by unfold kQ; simp only [hw]
    rw [hpa] at e
    refine Qy ?_ (aa3 (VY hcall H.hp (W8 hf) e))
    rintro v h' ⟨⟨γ', d, L', k, H', c', hd⟩, hrd⟩
    exact fin (H.on H' c') (by rw [Y8]; exact hf.put c' hd c.d) nil (YW hf hp2 hrd c') k
   | some ids =>
    have e2 := e
    have kept : ∀ {γ' : Pl} {L' : List TO} {h' : Heap} {v : Value}, Carry W0 γ (eL L) h γ' (eL L') h' → VKept γ L h h' ids → YM P (pins.filter fun q => !(ids.contains q.2.1) && !(c.d == some q.1)) γ' L' h' (fa.put c.d v) := by
     intro γ' L' h' v cc hv q hq
     obtain ⟨hq1, hq2⟩ := List.mem_filter.1 hq
     simp only [Bool.and_eq_true, Bool.not_eq_true', beq_eq_false_iff_ne] at hq2
     obtain ⟨b, w, g1, g2, g3, g4⟩ := hp q hq1
     obtain ⟨g5, g6⟩ := cc.st q.2.1 b g1 g2
     refine ⟨b, w, g5, g6, by rw [uU hq2.2]; exact g3, ?_⟩
     rw [a75 (hv q.2.1 b g1 g2 (by simpa using hq2.1))]
     exact g4
    have gen : (∀ t x, c.op ≠ .load t x) → qy P c.op fa.ev h (fun v h' => cWp P [] (fun fa h => wv P fa h ks ∧ dWp P r Q fa h) (fa.put c.d v) h') := by
     intro hnl
     have hpa : kQ wr pins c a L = pins.filter fun q => !(ids.contains q.2.1) && !(c.d == some q.1) := by
      unfold kQ
      simp only [hw]
      split
      ·rename_i t x d hop hd; exact absurd hop (hnl t x)
      ·rfl
     rw [hpa] at e2
     refine Qy ?_ (aa3 (a9v hcall H.hp (W8 hf) e2 hw))
     rintro v h' ⟨⟨⟨γ', d, L', k, H', c', hd⟩, hv⟩, hrd⟩
     exact fin (H.on H' c') (by rw [Y8]; exact hf.put c' hd c.d) (kept c' hv) (YW hf hp2 hrd c') k
    cases hop : c.op with
    | load t x =>
     rw [hop] at e2
     unfold top at e2
     simp only at e2
     unfold a71 at e2
     simp only at e2
     unfold vC at e2
     simp only at e2
     replace e2 := q8 e2; obtain ⟨p, h1, e2⟩ := e2
     obtain ⟨d, h3, h4⟩ := Yb e2
     obtain ⟨pv, r1, d1⟩ := zP (W8 hf) h1
     obtain ⟨v, l1, l2⟩ := Zo H.hp d1 h3
     simp only [qy, r1, l1]
     have hf' : FR P W0 γ (eL L) h (zO (a.put c.d d)) (fa.put c.d v) := by rw [Y8]; exact hf.put (Carry.refl _ _ _) l2 c.d
     refine fin H hf' ?_ (YW hf hp2 (fun _ => ⟨by rw [hop]; simp only [qO, r1, l1], rfl⟩) (Carry.refl _ _ _)) h4
     have hk := kept (γ' := γ) (L' := L) (h' := h) (v := v) (Carry.refl _ _ _) (fun _ _ _ _ _ => rfl)
     unfold kQ
     simp only [hw]
     intro q hq
     rcases List.mem_append.1 hq with hq | hq
     ·split at hq
      ·rename_i t' x' d' hop' hd'
       rw [hop] at hop'
       cases hop'
       split at hq
       ·rename_i id off hx
        split at hq
        ·rename_i hlt
         simp only [List.mem_singleton] at hq
         subst hq
         rw [h1] at hx; cases hx
         obtain ⟨b, g1, g2, rfl⟩ := d1
         refine ⟨b, v, g1, g2, ?_, l1⟩
         rw [hd']
         exact uX (by rw [hf.n]; exact hlt)
        ·simp at hq
       ·simp at hq
      ·simp at hq
     ·exact hk q hq
    | _ => rw [← hop]; exact gen (fun t x q => by rw [hop] at q; cases q)
  cases hg : c.g with
  | some p =>
   obtain ⟨t, want⟩ := p
   simp only [hg] at e
   unfold cWp
   simp only [hg]
   refine Vo hf e (fun a' hf' e' => run hf' e') (fun a' hf' e' => ?_)
   refine fin H (by rw [Y8]; exact hf'.put (Carry.refl _ _ _) a5W c.d) (fun q hq => ?_) (a54 hp2 (Carry.refl _ _ _) c.d _) e'
   obtain ⟨hq1, hq2⟩ := List.mem_filter.1 hq
   obtain ⟨b, w, g1, g2, g3, g4⟩ := hp q hq1
   simp only [Bool.not_eq_true', beq_eq_false_iff_ne] at hq2
   exact ⟨b, w, g1, g2, by rw [uU hq2]; exact g3, g4⟩
  | none =>
   simp only [hg] at e
   unfold cWp
   simp only [hg]
   exact run hf e
end
end Go.Sim
