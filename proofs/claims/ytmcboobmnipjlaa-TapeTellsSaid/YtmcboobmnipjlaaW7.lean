/- Part 7 of the claim TapeTells: T10, T11, T12, T13, T14, T15, T16, T17, T18 -/
import Derived.Test.YtmcboobmnipjlaaW6
set_option linter.unusedSimpArgs false
set_option linter.unusedVariables false
set_option linter.defProp false
set_option linter.unusedVariables false
namespace Go.Sim
open Go.RowKit
section
variable {R : Type} {P : Program} {ty : TypeId → Option CT} {h0 : Heap} {W0 : Ent}
/-- From the typed state to the abstract one. -/
def SimT (P : Program) (h0 : Heap) (W0 : Ent) (K : TFrm → List TO → Prop) (fa : Frm) (h : Heap) : Prop := ∃ a L γ, K a L ∧ Hp P h0 W0 γ (eL L) h ∧ FR P W0 γ (eL L) h (encF a) fa
theorem fr_rho {γ : Pl} {L : List TO} {h : Heap} {a : TFrm} {fa : Frm} (hf : FR P W0 γ (eL L) h (encF a) fa) : RhoD P W0 γ (eL L) h (eRho a.ev) fa.ev := by
  rw [eRho_ev]; exact hf.rho
theorem fr_know {γ : Pl} {L : List TO} {h : Heap} {a : TFrm} {fa : Frm} (hf : FR P W0 γ (eL L) h (encF a) fa) {x : Operand} {b : Bool} (hx : a.ev x = some (.v (.bool b))) : FR P W0 γ (eL L) h (encF (a.know x b)) fa := by
  cases x with
  | tmp t =>
    refine ⟨hf.n, hf.cnt, fun u d e => ?_⟩
    have e' : (if t = u then some (enc (.v (.bool b))) else dlook u (a.l.map fun p => (p.1, enc p.2))) = some d := e
    split at e'
    · rename_i hu
      subst hu
      cases e'
      exact hf.slots t _ (by show dlook t (a.l.map fun p => (p.1, enc p.2)) = _; rw [dlook_enc, show tlook t a.l = some (.v (.bool b)) from hx]; rfl)
    · exact hf.slots u d e'
  | const v => exact hf
  | func f => exact hf
  | global g => exact hf
theorem slot_bool {γ : Pl} {L : List TO} {h : Heap} {a : TFrm} {fa : Frm} (hf : FR P W0 γ (eL L) h (encF a) fa) {t : Nat} {b : Bool} (hx : tlook t a.l = some (.v (.bool b))) : fa.get t = some (.bool b) := by
  obtain ⟨v, e1, r⟩ := hf.slots t (enc (.v (.bool b))) (by show dlook t (a.l.map fun p => (p.1, enc p.2)) = _; rw [dlook_enc, hx]; rfl)
  have : v = .bool b := PR.scal (P := P) (S := Free W0 γ (eL L) h) (h := h) r
  subst this
  exact e1
theorem slot_tup {γ : Pl} {L : List TO} {h : Heap} {a : TFrm} {fa : Frm} (hf : FR P W0 γ (eL L) h (encF a) fa) {t : Nat} {xs : List TV} (hx : tlook t a.l = some (.tup xs)) : ∃ vs, fa.get t = some (.tuple vs) := by
  obtain ⟨v, e1, vs, rfl, _⟩ := hf.slots t (enc (.tup xs)) (by show dlook t (a.l.map fun p => (p.1, enc p.2)) = _; rw [dlook_enc, hx]; rfl)
  exact ⟨vs, e1⟩
theorem tguard_sound {γ : Pl} {L : List TO} {h : Heap} {a : TFrm} {fa : Frm} {t : Option Tmp} {want : Bool} {A B : TFrm → Tree R} {z : R} {X Y : Prop} (hf : FR P W0 γ (eL L) h (encF a) fa) (e : (tguard t want a A B).run = some z)
    (hA : ∀ a', FR P W0 γ (eL L) h (encF a') fa → (A a').run = some z → X) (hB : ∀ a', FR P W0 γ (eL L) h (encF a') fa → (B a').run = some z → Y) : guardWp (guardV t want fa) X Y := by
  unfold tguard at e
  split at e
  · rename_i t
    split at e
    · rename_i b hb
      have hg : guardV (some t) want fa = some (if want then b else !b) := by
        unfold guardV
        simp only [slot_bool hf hb]
      rw [hg]
      have hk := fr_know hf (x := .tmp t) (b := b) hb
      cases b <;> cases want <;> simp only [Tree.run, Bool.false_eq_true, if_false, if_true] at e <;> first
        | exact ⟨fun _ => hA _ hk e, fun q => by simp at q⟩
        | exact ⟨fun q => by simp at q, fun _ => hB _ hk e⟩
    · rename_i xs hx
      obtain ⟨vs, hv⟩ := slot_tup hf hx
      have hg : guardV (some t) want fa = some false := by
        unfold guardV
        simp only [hv]
      rw [hg]
      exact ⟨fun q => by simp at q, fun _ => hB _ hf e⟩
    · cases e
  · cases e
theorem tcW_sound {call : TCall R} {wr : TWr} (hcall : TCallOk P call wr) : ∀ (l : List C) {K : TFrm → List TO → Tree R} {z : R} {Q : Frm → Heap → Prop} {γ : Pl} {L : List TO} {h : Heap} {a : TFrm} {fa : Frm}, (∀ fa h, SimT P h0 W0 (fun a L => (K a L).run = some z) fa h → Q fa h) →
    Hp P h0 W0 γ (eL L) h → FR P W0 γ (eL L) h (encF a) fa → (tcW P ty call l K a L).run = some z → cWp P l Q fa h
  | [], K, z, Q, γ, L, h, a, fa, hQ, H, hf, e => hQ fa h ⟨a, L, γ, e, H, hf⟩
  | c :: r, K, z, Q, γ, L, h, a, fa, hQ, H, hf, e => by
    have go : ∀ a', FR P W0 γ (eL L) h (encF a') fa → (top P ty call c.op a'.ev L (fun d L' => tcW P ty call r K (a'.put c.d d) L')).run = some z → opWp P c.op fa.ev h (fun v h' => cWp P r Q (fa.put c.d v) h') := fun a' hf' e =>
      opWp_mono (fun v h' ⟨γ', d, L', k, H', c', hd⟩ => tcW_sound hcall r hQ H' (by rw [put_enc]; exact hf'.put c' hd c.d) k) (top_sound hcall H (fr_rho hf') e)
    unfold tcW at e
    unfold cWp
    cases hg : c.g with
    | none => simp only [hg] at e ⊢; exact go a hf e
    | some p =>
      obtain ⟨t, want⟩ := p
      simp only [hg] at e ⊢
      exact tguard_sound hf e (fun a' hf' e => go a' hf' e) (fun a' hf' e => tcW_sound hcall r hQ H (by rw [put_enc]; exact hf'.put (Carry.refl _ _ _) dr_undef c.d) e)
theorem tread_enc {o : Op} {ρ : TRho} {L : List TO} {K : TV → Tree R} {z : R} (e : (tread P o ρ L K).run = some z) : ∃ d, dreadV P o (eRho ρ) (eL L) = some (enc d) ∧ (K d).run = some z := by
  unfold tread at e
  unfold dreadV
  split at e
  · replace e := obind_some e; obtain ⟨x, hx, e⟩ := e
    obtain ⟨d, h1, h2⟩ := tload_enc e
    refine ⟨d, ?_, h2⟩
    simp only [eRho_some hx]
    exact h1
  · split at e
    · rename_i x t hx ht
      obtain ⟨d, h1, h2⟩ := tlenV_enc e
      refine ⟨d, ?_, h2⟩
      simp only [allD_enc, hx, Option.map_some, List.map_cons, List.map_nil, ht]
      exact h1
    · cases e
  · cases e
theorem sameV_sound {x y : Value} {o : Tree R} {z : R} (e : (sameV x y o).run = some z) : x = y ∧ o.run = some z := by
  unfold sameV at e
  split at e
  · split at e
    · rename_i hk
      rw [tif_run] at e
      split at e
      · rename_i hn; rw [hk, hn]; exact ⟨rfl, e⟩
      · cases e
    · cases e
  · rw [tif_run] at e
    split at e
    · rename_i hn; rw [hn]; exact ⟨rfl, e⟩
    · cases e
  · rw [tif_run] at e
    split at e
    · rename_i hn; rw [hn]; exact ⟨rfl, e⟩
    · cases e
  · split at e
    · rename_i hn; exact ⟨valEq_sound _ _ hn, e⟩
    · cases e
theorem valsT_cons (x : Value) (l : List TV) : valsT (.v x :: l) = (valsT l).map (x :: ·) := rfl
theorem sameT_sound : ∀ {l m : List TV} {o : Tree R} {z : R}, (sameT l m o).run = some z → (∃ vs, valsT l = some vs ∧ valsT m = some vs) ∧ o.run = some z
  | l, m, o, z, e => by
    unfold sameT at e
    split at e
    · exact ⟨⟨[], rfl, rfl⟩, e⟩
    · have h1 := sameV_sound e
      have h2 := sameT_sound h1.2
      obtain ⟨⟨vs, h3, h4⟩, h5⟩ := h2
      have hxy := h1.1
      subst hxy
      exact ⟨⟨_, by rw [valsT_cons, h3]; rfl, by rw [valsT_cons, h4]; rfl⟩, h5⟩
    · cases e
theorem same1_sound {x y : TV} {o : Tree R} {z : R} (e : (same1 x y o).run = some z) : (∃ v, valT x = some v ∧ valT y = some v) ∧ o.run = some z := by
  unfold same1 at e
  split at e
  · have h1 := sameV_sound e
    refine ⟨⟨_, rfl, ?_⟩, h1.2⟩
    rw [h1.1]; rfl
  · obtain ⟨⟨vs, h1, h2⟩, h3⟩ := sameT_sound e
    refine ⟨⟨.agg vs.toArray, ?_, ?_⟩, h3⟩
    · unfold valT; simp only [h1]; rfl
    · unfold valT; simp only [h2]; rfl
  · cases e
theorem tchk1_sound {c : C} {a : TFrm} {L : List TO} {o : Tree R} {z : R} (e : (tchk1 P c a L o).run = some z) : dchk1 P c (encF a) (eL L) ∧ o.run = some z := by
  unfold tchk1 at e
  obtain ⟨d, h1, e⟩ := tread_enc e
  replace e := obind_some e; obtain ⟨d', h2, e⟩ := e
  obtain ⟨⟨v, h3, h4⟩, e⟩ := same1_sound e
  refine ⟨?_, e⟩
  unfold dchk1
  rw [← eRho_ev, h1, withD_some, valD_enc, h3, withD_some]
  have : slotD (encF a) c.d = some (enc d') := by
    unfold slotT at h2
    unfold slotD
    cases hc : c.d with
    | none => rw [hc] at h2; cases h2
    | some t =>
      rw [hc] at h2
      show dlook _ (a.l.map fun p => (p.1, enc p.2)) = _
      rw [dlook_enc, show tlook t a.l = some d' from h2]; rfl
  rw [this, withD_some, valD_enc, h4, withD_some]
/-- What is read once more, is what was read. -/
def Pair (P : Program) (c : C) (fa : Frm) (h : Heap) : Prop := (slotV fa c.d).isSome = true ∧ readV P c.op fa.ev h = slotV fa c.d
def PinsOk (P : Program) (pins : Pins) (γ : Pl) (L : List TO) (h : Heap) (fa : Frm) : Prop := ∀ q ∈ pins, ∃ b v, γ q.2.1 = some (b, 0) ∧ (∃ c, (eL L)[q.2.1]? = some (.st c)) ∧ fa.get q.1 = some v ∧ loadV P q.2.2.2 h (.pointer (some ⟨b, q.2.2.1, none⟩)) = some v
/-- Its guard holds. -/
def GuardOn (g : Option (Option Tmp × Bool)) (fa : Frm) : Prop := match g with
  | none => True
  | some (t, w) => guardV t w fa = some true
def PinF (P : Program) (W0 : Ent) (γ : Pl) (L : List TO) (h : Heap) (fa : Frm) (q : C) : Prop := GuardOn q.g fa → ∃ d v, q.d = some d ∧ fa.get d = some v ∧ ∀ h', (∀ b, Free W0 γ (eL L) h b → h'.get b = h.get b) → readV P q.op fa.ev h' = some v
theorem sameTmp_eq {x y : Operand} (e : sameTmp x y = true) : x = y := by
  unfold sameTmp at e
  split at e
  · rw [beq_iff_eq] at e; rw [e]
  · simp only [Bool.and_eq_true, decide_eq_true_eq] at e; rw [e.1, e.2]
  · cases e
theorem sameOpt_eq {x y : Option Operand} (e : sameOpt x y = true) : x = y := by
  unfold sameOpt at e
  split at e
  · rfl
  · rw [sameTmp_eq e]
  · cases e
theorem sameRd_eq {x y : Op} (e : sameRd x y = true) : x = y := by
  unfold sameRd at e
  split at e
  · simp only [Bool.and_eq_true, beq_iff_eq] at e; rw [e.1, sameTmp_eq e.2]
  · simp only [Bool.and_eq_true, beq_iff_eq] at e
    obtain ⟨⟨⟨⟨e1, e2⟩, e3⟩, e4⟩, e5⟩ := e
    rw [e1, sameTmp_eq e2, sameOpt_eq e3, sameOpt_eq e4, sameOpt_eq e5]
  · cases e
theorem sameG_eq {x y : Option (Option Tmp × Bool)} (e : sameG x y = true) : x = y := by
  unfold sameG at e
  split at e
  · rfl
  · simp only [Bool.and_eq_true, beq_iff_eq] at e; rw [e.1, e.2]
  · cases e
theorem sameC_eq {q c : C} (e : sameC q c = true) : q.d = c.d ∧ q.op = c.op ∧ q.g = c.g := by
  unfold sameC at e
  simp only [Bool.and_eq_true, beq_iff_eq] at e
  exact ⟨e.1.1, sameRd_eq e.1.2, sameG_eq e.2⟩
theorem put_other {fa : Frm} {d : Option Nat} {v : Value} {t : Nat} (h : ∀ u, d = some u → u ≠ t) : (fa.put d v).get t = fa.get t := by
  cases d with
  | none => rfl
  | some u =>
    have hne := h u rfl
    by_cases hlt : u < fa.n
    · simp only [Frm.put, hlt, if_true, Frm.get, look_ins]
      first | rw [if_neg hne] | rw [if_neg (Ne.symm hne)]
    · simp only [Frm.put, hlt, if_false]
theorem ev_put {o : Op} {fa : Frm} {d : Option Nat} {v : Value} (h : ∀ u, d = some u → usesT o u = false) : ∀ x ∈ o.operands, (fa.put d v).ev x = fa.ev x := by
  intro x hx
  cases x with
  | tmp t =>
    refine put_other fun u hu q => ?_
    have := h u hu
    unfold usesT at this
    rw [List.any_eq_false] at this
    have := this (.tmp t) (by simpa using hx)
    simp [q] at this
  | const v => rfl
  | func f => rfl
  | global g => rfl
theorem guardOn_put {g : Option (Option Tmp × Bool)} {fa : Frm} {d : Option Nat} {v : Value} (h : ∀ u, d = some u → guardT g u = false) : GuardOn g (fa.put d v) ↔ GuardOn g fa := by
  unfold GuardOn
  split
  · exact Iff.rfl
  · rename_i t w
    cases t with
    | none => exact Iff.rfl
    | some t =>
      have : (fa.put d v).get t = fa.get t := put_other fun u hu q => by
        have := h u hu
        simp [guardT, q] at this
      unfold guardV
      simp only [this]
theorem PinF.kept {P : Program} {W0 : Ent} {γ γ' : Pl} {L L' : List TO} {h h' : Heap} {fa : Frm} {q : C} (p : PinF P W0 γ L h fa q) (cc : Carry W0 γ (eL L) h γ' (eL L') h') {d : Option Nat} (v : Value) (hd : ∀ u, d = some u → holdsT q u = false) : PinF P W0 γ' L' h' (fa.put d v) q := by
  have hd' : ∀ u, d = some u → q.d ≠ some u ∧ usesT q.op u = false ∧ guardT q.g u = false := fun u hu => by
    have := hd u hu
    unfold holdsT at this
    simp only [Bool.or_eq_false_iff, beq_eq_false_iff_ne] at this
    exact ⟨this.1.1, this.1.2, this.2⟩
  intro hg
  obtain ⟨t, w, e1, e2, e3⟩ := p ((guardOn_put fun u hu => (hd' u hu).2.2).1 hg)
  refine ⟨t, w, e1, ?_, fun h2 hh => ?_⟩
  · rw [put_other fun u hu q => (hd' u hu).1 (by rw [e1, q])]
    exact e2
  · rw [readV_ext (ev_put fun u hu => (hd' u hu).2.1)]
    refine e3 h2 fun b hb => ?_
    rw [hh b (cc.free b hb).1, (cc.free b hb).2]
theorem kept_all {P : Program} {W0 : Ent} {γ γ' : Pl} {L L' : List TO} {h h' : Heap} {fa : Frm} {p2 : List C} (p : ∀ q ∈ p2, PinF P W0 γ L h fa q) (cc : Carry W0 γ (eL L) h γ' (eL L') h') (d : Option Nat) (v : Value) :
    ∀ q ∈ p2.filter (fun q => match d with | some d => !holdsT q d | none => true), PinF P W0 γ' L' h' (fa.put d v) q := by
  intro q hq
  obtain ⟨h1, h2⟩ := List.mem_filter.1 hq
  refine (p q h1).kept cc v fun u hu => ?_
  subst hu
  simpa using h2
theorem loadV_free {P : Program} {t : TypeId} {h h' : Heap} {b i : Nat} (e : h'.get b = h.get b) : loadV P t h' (.pointer (some ⟨b, i, none⟩)) = loadV P t h (.pointer (some ⟨b, i, none⟩)) := by
  unfold loadV loadT
  simp only [e]
theorem sliceV_free {P : Program} {t : TypeId} {h h' : Heap} {a : Option Addr} {n c : Nat} {lo hi mx : Option Value} (e : ∀ b o, a = some ⟨b, o, none⟩ → c ≠ dud → h'.get b = h.get b) : sliceV P (elemSz P h') t (.slice a n c) lo hi mx = sliceV P (elemSz P h) t (.slice a n c) lo hi mx := by
  unfold sliceV
  split <;> first | rfl | skip
  rename_i e' b o n' c' hx hy
  cases hy
  by_cases hc : c = dud
  · simp only [hc, if_true]
  · have : elemSz P h' b = elemSz P h b := by unfold elemSz; rw [e b o rfl hc]
    simp only [this]
section
variable {γ : Pl} {L : List TO} {h : Heap} {a : TFrm} {fa : Frm} {pins : Pins}
theorem tchkP_sound (H : Hp P h0 W0 γ (eL L) h) (hf : FR P W0 γ (eL L) h (encF a) fa) (hp : PinsOk P pins γ L h fa) {p2 : List C} (hp2 : ∀ q ∈ p2, PinF P W0 γ L h fa q) {c : C} (hgo : GuardOn c.g fa) {o : Tree R} {z : R} (e : (tchkP P pins p2 c a L o).run = some z) : Pair P c fa h ∧ o.run = some z := by
  unfold tchkP at e
  split at e
  · rename_i hpin
    refine ⟨?_, e⟩
    rcases Bool.or_eq_true_iff.1 hpin with hpin | hpin
    case inr =>
      obtain ⟨q, hq, he⟩ := List.any_eq_true.1 hpin
      obtain ⟨s1, s2, s3⟩ := sameC_eq he
      obtain ⟨d, v, g1, g2, g3⟩ := hp2 q hq (by rw [s3]; exact hgo)
      have g3 := g3 h fun _ _ => rfl
      rw [s2] at g3
      rw [s1] at g1
      unfold Pair
      rw [g1]
      simp only [slotV, g2, g3]
      exact ⟨rfl, trivial⟩
    unfold pinned at hpin
    split at hpin
    · rename_i t x d hop hd
      split at hpin
      · rename_i id off hx
        obtain ⟨q, hq, he⟩ := List.any_eq_true.1 hpin
        simp only [Bool.and_eq_true, beq_iff_eq] at he
        obtain ⟨⟨⟨e1, e2⟩, e3⟩, e4⟩ := he
        obtain ⟨b, v, g1, g2, g3, g4⟩ := hp q hq
        rw [e1] at g3; rw [e2] at g1; rw [e3, e4] at g4
        obtain ⟨pv, r1, b', g', _, rfl⟩ := (fr_rho hf) x (enc (.ptr id off)) (eRho_some hx)
        rw [g1] at g'; cases g'
        unfold Pair
        rw [hop, hd]
        simp only [slotV, readV, r1, g3, g4]
        exact ⟨by first | trivial | rfl, by first | trivial | rfl⟩
      · cases hpin
    · cases hpin
  · obtain ⟨h1, h2⟩ := tchk1_sound e
    have : chkF P { c with g := none } fa h := dchk_sound H hf (c := { c with g := none }) h1
    exact ⟨this, h2⟩
theorem tchkW_sound (H : Hp P h0 W0 γ (eL L) h) (hf : FR P W0 γ (eL L) h (encF a) fa) (hp : PinsOk P pins γ L h fa) {p2 : List C} (hp2 : ∀ q ∈ p2, PinF P W0 γ L h fa q) {c : C} {o : Tree R} {z : R} (e : (tchkW P pins p2 c a L o).run = some z) : chkF P c fa h ∧ o.run = some z := by
  unfold tchkW at e
  unfold chkF
  split at e
  · rename_i hg
    simp only [hg]
    exact tchkP_sound H hf hp hp2 (by rw [hg]; trivial) e
  · rename_i t want hg
    simp only [hg]
    split at e
    · rename_i b hb
      have hgd : guardV (some t) want fa = some (if want then b else !b) := by
        unfold guardV
        simp only [slot_bool hf hb]
      rw [hgd]
      cases b <;> cases want <;> simp only [Tree.run, Bool.false_eq_true, if_false, if_true] at e <;> first
        | exact ⟨.inl rfl, e⟩
        | (obtain ⟨q1, q2⟩ := tchkP_sound H hf hp hp2 (by rw [hg]; exact hgd) e; exact ⟨.inr q1, q2⟩)
    · rename_i xs hx
      obtain ⟨vs, hv⟩ := slot_tup hf hx
      have hgd : guardV (some t) want fa = some false := by
        unfold guardV
        simp only [hv]
      exact ⟨.inl hgd, e⟩
    · cases e
  · cases e
theorem tchkAll_sound (H : Hp P h0 W0 γ (eL L) h) (hf : FR P W0 γ (eL L) h (encF a) fa) (hp : PinsOk P pins γ L h fa) {p2 : List C} (hp2 : ∀ q ∈ p2, PinF P W0 γ L h fa q) {z : R} {o : Tree R} : ∀ {ks : List C}, (tchkAll P pins p2 a L ks o).run = some z → chkAll P fa h ks ∧ o.run = some z
  | [], e => ⟨trivial, e⟩
  | c :: r, e => by
    obtain ⟨h1, e2⟩ := tchkW_sound H hf hp hp2 e
    obtain ⟨h2, e3⟩ := tchkAll_sound H hf hp hp2 e2
    exact ⟨⟨h1, h2⟩, e3⟩
theorem get_put_ne {fa : Frm} {v : Value} {d : Option Nat} {t : Nat} (h : d ≠ some t) : (fa.put d v).get t = fa.get t := by
  cases d with
  | none => rfl
  | some d =>
    have hne : ¬ d = t := fun q => h (by rw [q])
    by_cases hlt : d < fa.n
    · simp only [Frm.put, hlt, if_true, Frm.get, look_ins]
      first | rw [if_neg hne] | rw [if_neg (Ne.symm hne)]
    · simp only [Frm.put, hlt, if_false]
theorem get_put_eq {fa : Frm} {v : Value} {d : Nat} (h : d < fa.n) : (fa.put (some d) v).get d = some v := by
  unfold Frm.put
  simp only [h, if_true, Frm.get, look_ins]
theorem loadV_congr {P : Program} {t : TypeId} {h h' : Heap} {b i : Nat} (e : h'.get b = h.get b) : loadV P t h' (.pointer (some ⟨b, i, none⟩)) = loadV P t h (.pointer (some ⟨b, i, none⟩)) := by
  unfold loadV loadT
  simp only [e]
end
def rdOp : Op → Bool
  | .load _ _ => true
  | .slice _ _ _ _ _ => true
  | _ => false
theorem opWp_rd {o : Op} {r : Rho} {h : Heap} {K : Value → Heap → Prop} (q : opWp P o r h K) : opWp P o r h (fun v h' => K v h' ∧ (rdOp o = true → readV P o r h = some v ∧ h' = h)) := by
  by_cases ho : rdOp o = true
  · unfold rdOp at ho
    split at ho
    · unfold opWp at q ⊢
      simp only [readV]
      simp only at q ⊢
      split at q
      · split at q
        · rename_i h1 _ _ h2
          simp only [h1, h2]
          exact ⟨q, fun _ => ⟨trivial, trivial⟩⟩
        · exact q.elim
      · exact q.elim
    · unfold opWp at q ⊢
      simp only [readV]
      simp only at q ⊢
      split at q
      · split at q
        · rename_i h1 h2 h3 h4 _ _ h5
          simp only [h1, h2, h3, h4, h5]
          exact ⟨q, fun _ => ⟨trivial, trivial⟩⟩
        · exact q.elim
      · exact q.elim
    · cases ho
  · exact opWp_mono (fun v h' k => ⟨k, fun e => absurd e ho⟩) q
theorem free_new {γ γ' : Pl} {L L' : List TO} {h : Heap} {a : TFrm} {fa : Frm} (hf : FR P W0 γ (eL L) h (encF a) fa) {c : C} (hr : readsFree c a = true) {v : Value} (hv : readV P c.op fa.ev h = some v) (cc : Carry W0 γ (eL L) h γ' (eL L') h) : PinF P W0 γ' L' h (fa.put c.d v) c := by
  unfold readsFree at hr
  split at hr
  · cases hr
  · rename_i d hd
    simp only [Bool.and_eq_true, decide_eq_true_eq, Bool.not_eq_true'] at hr
    obtain ⟨⟨⟨r1, r2⟩, r3⟩, r4⟩ := hr
    intro _
    refine ⟨d, v, hd, by rw [hd]; exact get_put_eq (by rw [hf.n]; exact r1), fun h2 hh => ?_⟩
    rw [readV_ext (ev_put fun u hu => by rw [hd] at hu; cases hu; exact r2)]
    have hfr : ∀ b, Free W0 γ (eL L) h b → h2.get b = h.get b := fun b hb => hh b (cc.free b hb).1
    split at r4
    · rename_i t x hop
      split at r4
      · rename_i hx
        obtain ⟨pv, q1, b, o, cs, e, rw', hS, hg, rfl, _⟩ := (fr_rho hf) x _ (eRho_some hx)
        rw [hop] at hv ⊢
        simp only [readV, q1] at hv ⊢
        rw [loadV_free (hfr b hS)]
        exact hv
      · cases r4
    · rename_i t x lo hi mx hop
      split at r4
      · rename_i ct xs hx
        obtain ⟨pv, q1, q2⟩ := (fr_rho hf) x _ (eRho_some hx)
        have q2' : PR P (Free W0 γ (eL L) h) h (.sl ct.size (xs.map (encC ct))) pv := q2
        have key : ∀ l m n, sliceV P (elemSz P h2) t pv l m n = sliceV P (elemSz P h) t pv l m n := by
          intro l m n
          generalize hps : PV.sl ct.size (xs.map (encC ct)) = ps at q2'
          cases q2' with
          | v _ => cases hps
          | nil => exact sliceV_free fun b o e => by cases e
          | dud => exact sliceV_free fun b o e hc => absurd rfl hc
          | sl hS hb _ _ _ _ _ _ => exact sliceV_free fun b o e _ => by cases e; exact hfr _ hS
        rw [hop] at hv ⊢
        simp only [readV, q1] at hv ⊢
        rw [← hv]
        cases optV fa.ev lo <;> cases optV fa.ev hi <;> cases optV fa.ev mx <;> first | rfl | exact key _ _ _
      · cases r4
    · cases r4
theorem readsFree_rd {c : C} {a : TFrm} (h : readsFree c a = true) : rdOp c.op = true := by
  unfold readsFree at h
  split at h
  · cases h
  · simp only [Bool.and_eq_true] at h
    obtain ⟨_, h⟩ := h
    split at h
    · rename_i t x hop; rw [hop]; rfl
    · rename_i t x lo hi mx hop; rw [hop]; rfl
    · cases h
theorem free_after {γ γ' : Pl} {L L' : List TO} {h h' : Heap} {a : TFrm} {fa : Frm} (hf : FR P W0 γ (eL L) h (encF a) fa) {c : C} {p2 : List C} (p : ∀ q ∈ p2, PinF P W0 γ L h fa q) {v : Value} (hv : rdOp c.op = true → readV P c.op fa.ev h = some v ∧ h' = h) (cc : Carry W0 γ (eL L) h γ' (eL L') h') : ∀ q ∈ freeAfter p2 c a, PinF P W0 γ' L' h' (fa.put c.d v) q := by
  intro q hq
  unfold freeAfter at hq
  rcases List.mem_append.1 hq with hq | hq
  · split at hq
    · rename_i hr
      rw [List.mem_singleton] at hq
      subst hq
      obtain ⟨h1, rfl⟩ := hv (readsFree_rd hr)
      exact free_new hf hr h1 cc
    · simp at hq
  · exact kept_all p cc c.d v q hq
theorem tdW_sound {call : TCall R} {wr : TWr} (hcall : TCallOk P call wr) : ∀ (l : List (C × List C)) {pins : Pins} {p2 : List C} {K : TFrm → List TO → Tree R} {z : R} {Q : Frm → Heap → Prop} {γ : Pl} {L : List TO} {h : Heap} {a : TFrm} {fa : Frm}, (∀ fa h, SimT P h0 W0 (fun a L => (K a L).run = some z) fa h → Q fa h) →
    Hp P h0 W0 γ (eL L) h → FR P W0 γ (eL L) h (encF a) fa → PinsOk P pins γ L h fa → (∀ q ∈ p2, PinF P W0 γ L h fa q) → (tdW P ty call wr pins p2 l K a L).run = some z → dWp P l Q fa h
  | [], pins, p2, K, z, Q, γ, L, h, a, fa, hQ, H, hf, hp, hp2, e => hQ fa h ⟨a, L, γ, e, H, hf⟩
  | (c, ks) :: r, pins, p2, K, z, Q, γ, L, h, a, fa, hQ, H, hf, hp, hp2, e => by
    have fin : ∀ {γ' : Pl} {L' : List TO} {h' : Heap} {a' : TFrm} {fa' : Frm} {pins' : Pins} {p2' : List C}, Hp P h0 W0 γ' (eL L') h' → FR P W0 γ' (eL L') h' (encF a') fa' → PinsOk P pins' γ' L' h' fa' → (∀ q ∈ p2', PinF P W0 γ' L' h' fa' q) → (tchkAll P pins' p2' a' L' ks (tdW P ty call wr pins' p2' r K a' L')).run = some z → chkAll P fa' h' ks ∧ dWp P r Q fa' h' := by
      intro γ' L' h' a' fa' pins' p2' H' hf' hp' hp2' e'
      obtain ⟨h1, h2⟩ := tchkAll_sound H' hf' hp' hp2' e'
      exact ⟨h1, tdW_sound hcall r hQ H' hf' hp' hp2' h2⟩
    have nil : ∀ {γ' : Pl} {L' : List TO} {h' : Heap} {fa' : Frm}, PinsOk P [] γ' L' h' fa' := fun q hq => by simp at hq
    show cWp P [c] (fun fa h => chkAll P fa h ks ∧ dWp P r Q fa h) fa h
    unfold tdW at e
    cases hg : c.g with
    | some p =>
      obtain ⟨t, want⟩ := p
      simp only [hg] at e
      unfold cWp
      simp only [hg]
      refine tguard_sound hf e (fun a' hf' e' => ?_) (fun a' hf' e' => ?_)
      · refine opWp_mono ?_ (opWp_rd (top_sound hcall H (fr_rho hf') e'))
        rintro v h' ⟨⟨γ', d, L', k, H', c', hd⟩, hrd⟩
        exact fin H' (by rw [put_enc]; exact hf'.put c' hd c.d) nil (free_after hf' hp2 hrd c') k
      · exact fin H (by rw [put_enc]; exact hf'.put (Carry.refl _ _ _) dr_undef c.d) nil (kept_all hp2 (Carry.refl _ _ _) c.d _) e'
    | none =>
      simp only [hg] at e
      cases hw : wrT wr c.op a.ev L with
      | none =>
        have hpa : pinsAfter wr pins c a L = [] := by unfold pinsAfter; rw [hg]; simp only [hw]
        rw [hpa] at e
        unfold cWp
        simp only [hg]
        refine opWp_mono ?_ (opWp_rd (top_sound hcall H (fr_rho hf) e))
        rintro v h' ⟨⟨γ', d, L', k, H', c', hd⟩, hrd⟩
        exact fin H' (by rw [put_enc]; exact hf.put c' hd c.d) nil (free_after hf hp2 hrd c') k
      | some ids =>
        have e2 := e
        unfold cWp
        simp only [hg]
        -- those that are kept
        have kept : ∀ {γ' : Pl} {L' : List TO} {h' : Heap} {v : Value}, Carry W0 γ (eL L) h γ' (eL L') h' → VKept γ L h h' ids → PinsOk P (pins.filter fun q => !(ids.contains q.2.1) && !(c.d == some q.1)) γ' L' h' (fa.put c.d v) := by
          intro γ' L' h' v cc hv q hq
          obtain ⟨hq1, hq2⟩ := List.mem_filter.1 hq
          simp only [Bool.and_eq_true, Bool.not_eq_true', beq_eq_false_iff_ne] at hq2
          obtain ⟨b, w, g1, g2, g3, g4⟩ := hp q hq1
          obtain ⟨g5, g6⟩ := cc.st q.2.1 b g1 g2
          refine ⟨b, w, g5, g6, by rw [get_put_ne hq2.2]; exact g3, ?_⟩
          rw [loadV_congr (hv q.2.1 b g1 g2 (by simpa using hq2.1))]
          exact g4
        have gen : (∀ t x, c.op ≠ .load t x) → opWp P c.op fa.ev h (fun v h' => cWp P [] (fun fa h => chkAll P fa h ks ∧ dWp P r Q fa h) (fa.put c.d v) h') := by
          intro hnl
          have hpa : pinsAfter wr pins c a L = pins.filter fun q => !(ids.contains q.2.1) && !(c.d == some q.1) := by
            unfold pinsAfter
            rw [hg]
            simp only [hw]
            split
            · rename_i t x d hop hd; exact absurd hop (hnl t x)
            · rfl
          rw [hpa] at e2
          refine opWp_mono ?_ (opWp_rd (topF_sound hcall H (fr_rho hf) e2 hw))
          rintro v h' ⟨⟨⟨γ', d, L', k, H', c', hd⟩, hv⟩, hrd⟩
          exact fin H' (by rw [put_enc]; exact hf.put c' hd c.d) (kept c' hv) (free_after hf hp2 hrd c') k
        cases hop : c.op with
        | load t x =>
          rw [hop] at e2
          unfold top at e2
          simp only at e2
          replace e2 := obind_some e2; obtain ⟨p, h1, e2⟩ := e2
          obtain ⟨d, h3, h4⟩ := tload_enc e2
          obtain ⟨pv, r1, d1⟩ := rhoD_of (fr_rho hf) h1
          obtain ⟨v, l1, l2⟩ := dload_sound H d1 h3
          simp only [opWp, r1, l1]
          have hf' : FR P W0 γ (eL L) h (encF (a.put c.d d)) (fa.put c.d v) := by rw [put_enc]; exact hf.put (Carry.refl _ _ _) l2 c.d
          refine fin H hf' ?_ (free_after hf hp2 (fun _ => ⟨by rw [hop]; simp only [readV, r1, l1], rfl⟩) (Carry.refl _ _ _)) h4
          have hk := kept (γ' := γ) (L' := L) (h' := h) (v := v) (Carry.refl _ _ _) (fun _ _ _ _ _ => rfl)
          unfold pinsAfter
          rw [hg]
          simp only [hw]
          intro q hq
          rcases List.mem_append.1 hq with hq | hq
          · split at hq
            · rename_i t' x' d' hop' hd'
              rw [hop] at hop'
              cases hop'
              split at hq
              · rename_i id off hx
                split at hq
                · rename_i hlt
                  simp only [List.mem_singleton] at hq
                  subst hq
                  rw [h1] at hx; cases hx
                  obtain ⟨b, g1, g2, rfl⟩ := d1
                  refine ⟨b, v, g1, g2, ?_, l1⟩
                  rw [hd']
                  exact get_put_eq (by rw [hf.n]; exact hlt)
                · simp at hq
              · simp at hq
            · simp at hq
          · exact hk q hq
        | _ => rw [← hop]; exact gen (fun t x q => by rw [hop] at q; cases q)
end
end Go.Sim

set_option linter.unusedVariables false
namespace Go.Sim
open Go.RowKit
def encS (l : List (Nat × TV)) : List (Nat × DV) := l.map fun p => (p.1, enc p.2)
def ShpOk (P : Program) (S : Shp) : Prop := ∀ a L s q, S.dec a L = some (s, q) → (∀ p ∈ q, p.1 = p.2) → wkS P (encF a) (eL L) (encS (S.F s)) (eL (S.G s))
/-- A shape that the same values and blocks have. -/
def ShpJ (P : Program) (S : Shp) : Prop := ∀ a L s q, S.dec a L = some (s, q) → (∀ p ∈ q, p.1 = p.2) → ∀ (h0 : Heap) (W0 : Ent) (γ : Pl) (h : Heap) (fa : Frm), Hp P h0 W0 γ (eL L) h → FR P W0 γ (eL L) h (encF a) fa →
  ∃ γ', Hp P h0 W0 γ' (eL (S.G s)) h ∧ FR P W0 γ' (eL (S.G s)) h (encF ⟨a.n, a.c, S.F s⟩) fa
structure EnvOk (E : TEnv) : Prop where
  joins : ∀ p S, E.joins p = some S → ShpJ E.P S
  call : ∀ R : Type, TCallOk E.P (E.call R) E.wr
  loops : ∀ p S, E.loops p = some S → ShpOk E.P S
section
variable {h0 : Heap} {W0 : Ent}
theorem map_some {R S : Type} {t : Tree R} {z : S ⊕ R} (h : (t.map Sum.inr).run = some z) : ∃ r, t.run = some r ∧ z = Sum.inr r := by
  rw [Tree.run_map _ fun a b e => by cases e; rfl] at h
  cases hr : t.run with
  | none => rw [hr] at h; cases h
  | some r => rw [hr] at h; cases h; exact ⟨r, rfl, rfl⟩
theorem next_some {R : Type} {S : Shp} {n c : Nat} {a : TFrm} {L : List TO} {z1 : S.σ ⊕ R} (h : (if a.n = n ∧ a.c = c then obind (S.dec a L) fun p => chk p.2 (Tree.ret (Sum.inl p.1) : Tree (S.σ ⊕ R)) else .fail).run = some z1) :
    ∃ s q, S.dec a L = some (s, q) ∧ (∀ p ∈ q, p.1 = p.2) ∧ z1 = .inl s ∧ a.n = n ∧ a.c = c := by
  split at h
  · rename_i hc
    obtain ⟨⟨s, q⟩, h1, h2⟩ := obind_some h
    obtain ⟨h3, h4⟩ := chk_some h2
    cases h4
    exact ⟨s, q, h1, h3, rfl, hc⟩
  · cases h
theorem round_cases {R : Type} {S : Shp} {n c : Nat} {K : TK R} {e : Exit} {a : TFrm} {L : List TO} {z1 : S.σ ⊕ R} (h : (tround S n c K e a L).run = some z1) :
    (e = .normal ∧ ∃ s q, S.dec a L = some (s, q) ∧ (∀ p ∈ q, p.1 = p.2) ∧ z1 = .inl s ∧ a.n = n ∧ a.c = c) ∨ (e ≠ .normal ∧ ∃ r, (K e a L).run = some r ∧ z1 = .inr r) := by
  cases e with
  | normal => exact .inl ⟨rfl, next_some h⟩
  | exit id => exact .inr ⟨(fun q => by cases q), map_some h⟩
  | goto l => exact .inr ⟨(fun q => by cases q), map_some h⟩
  | ret => exact .inr ⟨(fun q => by cases q), map_some h⟩
  | panic c => exact .inr ⟨(fun q => by cases q), map_some h⟩
  | outgrown => exact .inr ⟨(fun q => by cases q), map_some h⟩
theorem go_cases {R : Type} {S : Shp} {n c : Nat} {K : TK R} {e : Exit} {a : TFrm} {L : List TO} {z1 : S.σ ⊕ R} (h : (tgo S n c K e a L).run = some z1) :
    ((∃ l, e = .goto l) ∧ ∃ s q, S.dec a L = some (s, q) ∧ (∀ p ∈ q, p.1 = p.2) ∧ z1 = .inl s ∧ a.n = n ∧ a.c = c) ∨ ((∀ l, e ≠ .goto l) ∧ ∃ r, (K e a L).run = some r ∧ z1 = .inr r) := by
  cases e with
  | goto l => exact .inl ⟨⟨l, rfl⟩, next_some h⟩
  | exit id => exact .inr ⟨(fun _ q => by cases q), map_some h⟩
  | normal => exact .inr ⟨(fun _ q => by cases q), map_some h⟩
  | ret => exact .inr ⟨(fun _ q => by cases q), map_some h⟩
  | panic c => exact .inr ⟨(fun _ q => by cases q), map_some h⟩
  | outgrown => exact .inr ⟨(fun _ q => by cases q), map_some h⟩
/-- How a loop is met. -/
theorem tloop_some {R : Type} {S : Shp} {body : TFrm → List TO → Tree (S.σ ⊕ R)} {a : TFrm} {L : List TO} {z : R} (h : (tloop S body a L).run = some z) :
    ∃ s q n, S.dec a L = some (s, q) ∧ (∀ p ∈ q, p.1 = p.2) ∧ iterM (fun s => (body ⟨a.n, a.c, S.F s⟩ (S.G s)).run) n s = some z := by
  unfold tloop at h
  obtain ⟨⟨s, q⟩, h1, h2⟩ := obind_some h
  obtain ⟨h3, h4⟩ := chk_some h2
  obtain ⟨t, h5, h6⟩ := sbind_some h4
  cases h6
  obtain ⟨n, hn⟩ := loopM_iter.1 h5
  exact ⟨s, q, n, h1, h3, hn⟩
theorem iter_succ {σ T : Type} {step : σ → Option (σ ⊕ T)} {n : Nat} {s : σ} {t : T} (h : iterM step n s = some t) : ∃ m z1, n = m + 1 ∧ step s = some z1 ∧ ((∃ s', z1 = .inl s' ∧ iterM step m s' = some t) ∨ z1 = .inr t) := by
  cases n with
  | zero => cases h
  | succ m =>
    unfold iterM at h
    cases hs : step s with
    | none => simp only [hs] at h; cases h
    | some z1 =>
      cases z1 with
      | inl s' => simp only [hs] at h; exact ⟨m, _, rfl, rfl, .inl ⟨s', rfl, h⟩⟩
      | inr t' => simp only [hs] at h; cases h; exact ⟨m, _, rfl, rfl, .inr rfl⟩
/-- Soundness of code: whatever the rest of the code asks, as it is met. -/
def TxOk (E : TEnv) (h0 : Heap) (W0 : Ent) (x : X) : Prop := ∀ {p : Nat} {R : Type} {K : TK R} {z : R} {Q : Exit → Frm → Heap → Prop} {γ : Pl} {L : List TO} {h : Heap} {a : TFrm} {fa : Frm}, (∀ e fa h, SimT E.P h0 W0 (fun a L => (K e a L).run = some z) fa h → Q e fa h) →
    Hp E.P h0 W0 γ (eL L) h → FR E.P W0 γ (eL L) h (encF a) fa → (tx E x none p R K a L).run = some z → xWp E.P x Q fa h
theorem wk_into {P : Program} {S : Shp} (hS : ShpOk P S) {γ : Pl} {L : List TO} {h : Heap} {a : TFrm} {fa : Frm} {c : Code} {Q : Exit → Frm → Heap → Prop} (H : Hp P h0 W0 γ (eL L) h) (hf : FR P W0 γ (eL L) h (encF a) fa) {s : S.σ} {q : List (Nat × Nat)} (h1 : S.dec a L = some (s, q)) (h2 : ∀ p ∈ q, p.1 = p.2)
    (hk : ∀ γ' fa', Hp P h0 W0 γ' (eL (S.G s)) h → FR P W0 γ' (eL (S.G s)) h (encF ⟨a.n, a.c, S.F s⟩) fa' → AWp P c Q fa' h) : AWp P c Q fa h :=
  wkS_sound H hf (hS a L s q h1 h2) hk
theorem tloop_sound {E : TEnv} (hE : EnvOk E) {x : X} (ih : TxOk E h0 W0 x) {p : Nat} {S : Shp} (hS : ShpOk E.P S) {R : Type} {K : TK R} {z : R} {Q : Exit → Frm → Heap → Prop} {γ : Pl} {L : List TO} {h : Heap} {a : TFrm} {fa : Frm} (hQ : ∀ e fa h, e ≠ .normal → SimT E.P h0 W0 (fun a L => (K e a L).run = some z) fa h → Q e fa h)
    (H : Hp E.P h0 W0 γ (eL L) h) (hf : FR E.P W0 γ (eL L) h (encF a) fa) (e : (tloop S (fun a' L => tx E x none p (S.σ ⊕ R) (tround S a.n a.c K) a' L) a L).run = some z) : loopW E.P x Q fa h := by
  rintro c rfl
  obtain ⟨s, q, n, h1, h2, h3⟩ := tloop_some e
  generalize hst : (fun s => ((fun a' L => tx E (xOf E.P c .nil) none p (S.σ ⊕ R) (tround S a.n a.c K) a' L) ⟨a.n, a.c, S.F s⟩ (S.G s)).run) = step at h3
  have hst' : ∀ s, step s = (tx E (xOf E.P c .nil) none p (S.σ ⊕ R) (tround S a.n a.c K) ⟨a.n, a.c, S.F s⟩ (S.G s)).run := fun s => by rw [← hst]
  let I : S.σ × Nat → Frm → Heap → Prop := fun y fa h => ∃ γ' a' L' q', Hp E.P h0 W0 γ' (eL L') h ∧ FR E.P W0 γ' (eL L') h (encF a') fa ∧ S.dec a' L' = some (y.1, q') ∧ (∀ p ∈ q', p.1 = p.2) ∧ a'.n = a.n ∧ a'.c = a.c ∧ iterM step y.2 y.1 = some z
  refine awp_loop_st (σ := S.σ × Nat) I (fun y => y.2) (s, n) ⟨γ, a, L, q, H, hf, h1, h2, rfl, rfl, h3⟩ ?_
  rintro ⟨s, n⟩ fa h ⟨γ', a', L', q', H', hf', d1, d2, e1, e2, hi⟩
  obtain ⟨m, z1, rfl, hs, hz⟩ := iter_succ hi
  refine wk_into hS H' hf' d1 d2 fun γ2 fa2 H2 hf2 => ?_
  rw [e1, e2] at hf2
  rw [hst'] at hs
  refine (xOf_nil (ih (Q := thenQ (fun fa h => ∃ y : S.σ × Nat, I y fa h ∧ y.2 < m + 1) Q) ?_ H2 hf2 hs))
  rintro e fa3 h3 ⟨a3, L3, γ3, hk, H3, hf3⟩
  rcases round_cases hk with ⟨rfl, s', q2, k1, k2, rfl, k3, k4⟩ | ⟨hn, r, k1, rfl⟩
  · rcases hz with ⟨s2, hz1, hz2⟩ | hz
    · cases hz1
      exact ⟨(s', m), ⟨γ3, a3, L3, q2, H3, hf3, k1, k2, k3, k4, hz2⟩, Nat.lt_succ_self m⟩
    · cases hz
  · rcases hz with ⟨s2, hz1, hz2⟩ | hz
    · cases hz1
    · cases hz
      have := hQ e fa3 h3 hn ⟨a3, L3, γ3, k1, H3, hf3⟩
      cases e <;> first | exact absurd rfl hn | exact this
/-- A label's code, as it is found. -/
def LabOk (E : TEnv) (h0 : Heap) (W0 : Ent) (x : X) : Prop := ∀ {l p : Nat} {R : Type} {K : TK R} {z : R} {Q : Exit → Frm → Heap → Prop} {γ : Pl} {L : List TO} {h : Heap} {a : TFrm} {fa : Frm}, (∀ e fa h, SimT E.P h0 W0 (fun a L => (K e a L).run = some z) fa h → Q e fa h) →
    Hp E.P h0 W0 γ (eL L) h → FR E.P W0 γ (eL L) h (encF a) fa → (tx E x (some l) p R K a L).run = some z → ∃ y, labX l x = some y ∧ xWp E.P y Q fa h
theorem tjump_sound {E : TEnv} (hE : EnvOk E) {labs : X} (ih : LabOk E h0 W0 labs) {p : Nat} {shp : Nat → Option Shp} (hshp : ∀ l S, shp l = some S → ShpOk E.P S) {c : Code} (hl : xLab E.P c .nil .nil = labs) :
    ∀ (f : Nat) {cur : Option Nat} {R : Type} {K : TK R} {z : R} {Q : Exit → Frm → Heap → Prop}, (∀ e fa h, (∀ l, e = .goto l → cur = some l) → SimT E.P h0 W0 (fun a L => (K e a L).run = some z) fa h → Q e fa h) →
      (∀ l rest fa h, findLabel c l = some rest → AWp E.P rest Q fa h → Q (.goto l) fa h) →
      ∀ e fa h, SimT E.P h0 W0 (fun a L => (tjump shp (fun R K l a L => tx E labs (some l) p R K a L) f cur R K e a L).run = some z) fa h → Q e fa h := by
  have find : ∀ l y, labX l labs = some y → ∃ rest, findLabel c l = some rest ∧ y = xOf E.P rest .nil := by
    subst hl
    intro l y hy
    cases hf : findLabel c l with
    | none =>
      rw [(xLab_find E.P l c .nil .nil).2 hf] at hy
      cases hy
    | some rest =>
      rw [(xLab_find E.P l c .nil .nil).1 rest hf] at hy
      cases hy
      exact ⟨rest, rfl, rfl⟩
  intro f
  induction f with
  | zero =>
    intro cur R K z Q hQ hgo e fa h ⟨a, L, γ, hk, H, hf⟩
    cases e with
    | goto l => cases hk
    | exit id => exact hQ _ fa h (fun l q => by cases q) ⟨a, L, γ, hk, H, hf⟩
    | normal => exact hQ _ fa h (fun l q => by cases q) ⟨a, L, γ, hk, H, hf⟩
    | ret => exact hQ _ fa h (fun l q => by cases q) ⟨a, L, γ, hk, H, hf⟩
    | panic c => exact hQ _ fa h (fun l q => by cases q) ⟨a, L, γ, hk, H, hf⟩
    | outgrown => exact hQ _ fa h (fun l q => by cases q) ⟨a, L, γ, hk, H, hf⟩
  | succ f ihf =>
    intro cur R K z Q hQ hgo e fa h ⟨a, L, γ, hk, H, hf⟩
    cases e with
    | goto l =>
      have hk' : (if cur = some l then K (.goto l) a L else match shp l with
        | none => tx E labs (some l) p R (tjump shp (fun R K l a L => tx E labs (some l) p R K a L) f cur R K) a L
        | some S => tloop S (fun a' L => tx E labs (some l) p (S.σ ⊕ R) (tjump shp (fun R K l a L => tx E labs (some l) p R K a L) f (some l) (S.σ ⊕ R) (tgo S a.n a.c K)) a' L) a L).run = some z := hk
      split at hk'
      · rename_i hc
        exact hQ _ fa h (fun l' q => by cases q; exact hc) ⟨a, L, γ, hk', H, hf⟩
      · rename_i hc
        split at hk'
        · obtain ⟨y, hy, hw⟩ := ih (Q := Q) (fun e fa h hs => ihf hQ hgo e fa h hs) H hf hk'
          obtain ⟨rest, hr, rfl⟩ := find l y hy
          exact hgo l rest fa h hr (xOf_nil hw)
        · rename_i S hS
          obtain ⟨s, q, n, h1, h2, h3⟩ := tloop_some hk'
          generalize hst : (fun s => ((fun a' L => tx E labs (some l) p (S.σ ⊕ R) (tjump shp (fun R K l a L => tx E labs (some l) p R K a L) f (some l) (S.σ ⊕ R) (tgo S a.n a.c K)) a' L) ⟨a.n, a.c, S.F s⟩ (S.G s)).run) = step at h3
          have hst' : ∀ s, step s = (tx E labs (some l) p (S.σ ⊕ R) (tjump shp (fun R K l a L => tx E labs (some l) p R K a L) f (some l) (S.σ ⊕ R) (tgo S a.n a.c K)) ⟨a.n, a.c, S.F s⟩ (S.G s)).run := fun s => by rw [← hst]
          have key : ∀ (n : Nat) (s : S.σ) (fa : Frm) (h : Heap) (γ' : Pl) (a' : TFrm) (L' : List TO) (q' : List (Nat × Nat)), Hp E.P h0 W0 γ' (eL L') h → FR E.P W0 γ' (eL L') h (encF a') fa → S.dec a' L' = some (s, q') → (∀ p ∈ q', p.1 = p.2) → a'.n = a.n → a'.c = a.c → iterM step n s = some z → Q (.goto l) fa h := by
            intro n
            induction n with
            | zero => intro s fa h γ' a' L' q' _ _ _ _ _ _ hi; cases hi
            | succ m ihm =>
              intro s fa h γ' a' L' q' H' hf' d1 d2 e1 e2 hi
              obtain ⟨m', z1, hm, hs, hz⟩ := iter_succ hi
              cases hm
              rw [hst'] at hs
              have e1' : (⟨a'.n, a'.c, S.F s⟩ : TFrm) = ⟨a.n, a.c, S.F s⟩ := by rw [e1, e2]
              -- the label's code from the state that is told
              obtain ⟨rest, hr⟩ : ∃ rest, findLabel c l = some rest := by
                obtain ⟨sel, ok, hp, hll⟩ := hshp l S hS a' L' s q' d1 d2
                obtain ⟨fl, f1, f2⟩ := wk_slots H' ok hf' (encS (S.F s)) hll
                obtain ⟨y, hy, _⟩ := ih (Q := fun _ _ _ => True) (fun _ _ _ _ => trivial) (H'.select ok fun id b e => hp id (by rw [← hf'.cnt]; exact W0.few id b e)) (a := ⟨a'.n, a'.c, S.F s⟩) (fa := ⟨a'.n, fl⟩) ⟨rfl, hf'.cnt, f2⟩ (by rw [e1']; exact hs)
                obtain ⟨rest, hr, _⟩ := find l y hy
                exact ⟨rest, hr⟩
              refine hgo l rest fa h hr ?_
              refine wk_into (hshp l S hS) H' hf' d1 d2 fun γ2 fa2 H2 hf2 => ?_
              rw [e1'] at hf2
              have hside : ∀ e fa h, SimT E.P h0 W0 (fun a' L' => (tjump shp (fun R K l a L => tx E labs (some l) p R K a L) f (some l) (S.σ ⊕ R) (tgo S a.n a.c K) e a' L').run = some z1) fa h → Q e fa h := by
                intro e fa h hs'
                refine ihf (cur := some l) (K := tgo S a.n a.c K) (z := z1) (Q := Q) ?_ hgo e fa h hs'
                · rintro e fa3 h3 hcur ⟨a3, L3, γ3, hk3, H3, hf3⟩
                  rcases go_cases hk3 with ⟨⟨l', rfl⟩, s', q2, k1, k2, rfl, k3, k4⟩ | ⟨hn, r, k1, rfl⟩
                  · have := hcur l' rfl
                    cases this
                    rcases hz with ⟨s2, hz1, hz2⟩ | hz
                    · cases hz1
                      exact ihm s' fa3 h3 γ3 a3 L3 q2 H3 hf3 k1 k2 k3 k4 hz2
                    · cases hz
                  · rcases hz with ⟨s2, hz1, hz2⟩ | hz
                    · cases hz1
                    · cases hz
                      exact hQ e fa3 h3 (fun l' q => absurd q (hn l')) ⟨a3, L3, γ3, k1, H3, hf3⟩
              obtain ⟨y, hy, hw⟩ := ih (Q := Q) hside H2 hf2 hs
              obtain ⟨rest', hr', rfl⟩ := find l y hy
              rw [hr] at hr'; cases hr'
              exact xOf_nil hw
          exact key n s fa h γ a L q H hf h1 h2 rfl rfl h3
    | exit id => exact hQ _ fa h (fun l q => by cases q) ⟨a, L, γ, hk, H, hf⟩
    | normal => exact hQ _ fa h (fun l q => by cases q) ⟨a, L, γ, hk, H, hf⟩
    | ret => exact hQ _ fa h (fun l q => by cases q) ⟨a, L, γ, hk, H, hf⟩
    | panic c => exact hQ _ fa h (fun l q => by cases q) ⟨a, L, γ, hk, H, hf⟩
    | outgrown => exact hQ _ fa h (fun l q => by cases q) ⟨a, L, γ, hk, H, hf⟩
theorem tthen_sim {R : Type} {P : Program} {k : TFrm → List TO → Tree R} {K : TK R} {z : R} {A : Frm → Heap → Prop} {Q : Exit → Frm → Heap → Prop} (hk : ∀ fa h, SimT P h0 W0 (fun a L => (k a L).run = some z) fa h → A fa h) (hK : ∀ e fa h, SimT P h0 W0 (fun a L => (K e a L).run = some z) fa h → Q e fa h) :
    ∀ e fa h, SimT P h0 W0 (fun a L => (tthen k K e a L).run = some z) fa h → thenQ A Q e fa h := by
  intro e fa h hs
  cases e with
  | normal => exact hk fa h hs
  | exit id => exact hK _ fa h hs
  | goto l => exact hK _ fa h hs
  | ret => exact hK _ fa h hs
  | panic c => exact hK _ fa h hs
  | outgrown => exact hK _ fa h hs
theorem tjoin_some {R : Type} {S : Shp} {body : TK (S.σ ⊕ R) → TFrm → List TO → Tree (S.σ ⊕ R)} {k : TFrm → List TO → Tree R} {K : TK R} {a : TFrm} {L : List TO} {z : R} (h : (tjoin S body k K a L).run = some z) :
    ∃ s1, (body (tround S a.n a.c K) a L).run = some s1 ∧ ((∃ s, s1 = .inl s ∧ (k ⟨a.n, a.c, S.F s⟩ (S.G s)).run = some z) ∨ s1 = .inr z) := by
  have h' : (sbind (body (tround S a.n a.c K) a L).run fun s => Tree.case S.σ R s (fun s => k ⟨a.n, a.c, S.F s⟩ (S.G s)) .ret).run = some z := h
  obtain ⟨s1, h1, h2⟩ := sbind_some h'
  refine ⟨s1, h1, ?_⟩
  cases s1 with
  | inl s => exact .inl ⟨s, rfl, h2⟩
  | inr r => cases h2; exact .inr rfl
theorem tjoin_sim {E : TEnv} (hE : EnvOk E) {R : Type} {S : Shp} (hS : ShpJ E.P S) {n c : Nat} {k : X} {p : Nat} (ih : TxOk E h0 W0 k) {K : TK R} {z : R} {Q : Exit → Frm → Heap → Prop} {s1 : S.σ ⊕ R} (hz : (∃ s, s1 = .inl s ∧ (tx E k none p R K ⟨n, c, S.F s⟩ (S.G s)).run = some z) ∨ s1 = .inr z)
    (hQ : ∀ e fa h, SimT E.P h0 W0 (fun a L => (K e a L).run = some z) fa h → Q e fa h) : ∀ e fa h, SimT E.P h0 W0 (fun a L => (tround S n c K e a L).run = some s1) fa h → thenQ (fun fa h => xWp E.P k Q fa h) Q e fa h := by
  rintro e fa h ⟨a, L, γ, hk, H, hf⟩
  rcases round_cases hk with ⟨rfl, s, q, k1, k2, rfl, k3, k4⟩ | ⟨hn, r, k1, rfl⟩
  · rcases hz with ⟨s', hs', hr⟩ | hz
    · cases hs'
      obtain ⟨γ', H', hf'⟩ := hS a L s q k1 k2 h0 W0 γ h fa H hf
      rw [k3, k4] at hf'
      exact ih hQ H' hf' hr
    · cases hz
  · rcases hz with ⟨s', hs', hr⟩ | hz
    · cases hs'
    · cases hz
      have := hQ e fa h ⟨a, L, γ, k1, H, hf⟩
      cases e <;> first | exact absurd rfl hn | exact this
theorem tx_both {E : TEnv} (hE : EnvOk E) : ∀ x : X, TxOk E h0 W0 x ∧ LabOk E h0 W0 x
  | .nil => ⟨fun hQ H hf e => hQ _ _ _ ⟨_, _, _, e, H, hf⟩, fun hQ H hf e => (by cases e)⟩
  | .ret => ⟨fun hQ H hf e => hQ _ _ _ ⟨_, _, _, e, H, hf⟩, fun hQ H hf e => (by cases e)⟩
  | .exit id => ⟨fun hQ H hf e => hQ _ _ _ ⟨_, _, _, e, H, hf⟩, fun hQ H hf e => (by cases e)⟩
  | .goto l => ⟨fun hQ H hf e => hQ _ _ _ ⟨_, _, _, e, H, hf⟩, fun hQ H hf e => (by cases e)⟩
  | .bad => ⟨fun hQ H hf e => (by cases e), fun hQ H hf e => (by cases e)⟩
  | .range _ _ _ _ _ => ⟨fun hQ H hf e => (by cases e), fun hQ H hf e => (by cases e)⟩
  | .reg l k => ⟨fun {p R K z Q γ L h a fa} hQ H hf e => (by
      unfold tx at e
      split at e
      · exact tcW_sound (hE.call R) l (fun fa h ⟨a, L, γ, e, H, hf⟩ => (tx_both hE k).1 hQ H hf e) H hf e
      · rename_i S hS
        obtain ⟨s1, h1, hz⟩ := tjoin_some e
        exact tcW_sound (hE.call (S.σ ⊕ R)) l (fun fa h hs => tjoin_sim hE (hE.joins _ _ hS) (tx_both hE k).1 hz hQ .normal fa h hs) H hf h1), fun hQ H hf e => (by cases e)⟩
  | .draw l k => ⟨fun {p R K z Q γ L h a fa} hQ H hf e => (by
      unfold tx at e
      split at e
      · exact tdW_sound (hE.call R) l (fun fa h ⟨a, L, γ, e, H, hf⟩ => (tx_both hE k).1 hQ H hf e) H hf (fun q hq => by simp at hq) (fun q hq => by simp at hq) e
      · rename_i S hS
        obtain ⟨s1, h1, hz⟩ := tjoin_some e
        exact tdW_sound (hE.call (S.σ ⊕ R)) l (fun fa h hs => tjoin_sim hE (hE.joins _ _ hS) (tx_both hE k).1 hz hQ .normal fa h hs) H hf (fun q hq => by simp at hq) (fun q hq => by simp at hq) h1), fun hQ H hf e => (by cases e)⟩
  | .label l k => ⟨fun hQ H hf e => (tx_both hE k).1 hQ H hf e, fun hQ H hf e => (by cases e)⟩
  | .cond c x y k => ⟨fun {p R K z Q γ L h a fa} hQ H hf e => (by
      have hT := tthen_sim (h0 := h0) (W0 := W0) (P := E.P) (A := fun fa h => xWp E.P k Q fa h) (fun fa h ⟨a, L, γ, e, H, hf⟩ => (tx_both hE k).1 (p := 8 * p + 1) hQ H hf e) hQ
      unfold tx at e
      unfold xWp
      split at e
      · rename_i b hb
        have hv : fa.ev c = some (.bool b) := by
          obtain ⟨v, e1, r⟩ := (fr_rho hf) c (enc (.v (.bool b))) (eRho_some hb)
          have : v = .bool b := PR.scal (P := E.P) (S := Free W0 γ (eL L) h) (h := h) r
          subst this
          exact e1
        rw [hv]
        split at e
        · rename_i S hS
          obtain ⟨s1, h1, hz⟩ := tjoin_some e
          have hJ := tjoin_sim hE (hE.joins _ _ hS) (tx_both hE k).1 hz hQ
          have hk := fr_know hf hb
          cases b
          · exact ⟨fun q => (by cases q), fun _ => (tx_both hE y).1 hJ H hk h1⟩
          · exact ⟨fun _ => (tx_both hE x).1 hJ H hk h1, fun q => (by cases q)⟩
        · have hk := fr_know hf hb
          cases b
          · exact ⟨fun q => (by cases q), fun _ => (tx_both hE y).1 hT H hk e⟩
          · exact ⟨fun _ => (tx_both hE x).1 hT H hk e, fun q => (by cases q)⟩
      · cases e), fun hQ H hf e => (by cases e)⟩
  | .block id x k => ⟨fun {p R K z Q γ L h a fa} hQ H hf e => (by
      have hblk : ∀ {R' : Type} {K' : TK R'} {z' : R'} {Q' : Exit → Frm → Heap → Prop}, (∀ e fa h, SimT E.P h0 W0 (fun a L => (K' e a L).run = some z') fa h → Q' e fa h) → ∀ e fa h, SimT E.P h0 W0 (fun a L => (tblock id K' e a L).run = some z') fa h → blockQ id Q' e fa h := by
        intro R' K' z' Q' hT e fa h ⟨a, L, γ, hk, H, hf⟩
        cases e with
        | exit id' =>
          have hk' : ((if id' = id then K' .normal a L else K' (.exit id') a L)).run = some z' := hk
          unfold blockQ
          simp only
          split at hk'
          · rename_i hc; rw [if_pos hc]; exact hT _ _ _ ⟨a, L, γ, hk', H, hf⟩
          · rename_i hc; rw [if_neg hc]; exact hT _ _ _ ⟨a, L, γ, hk', H, hf⟩
        | normal => exact hT .normal _ _ ⟨a, L, γ, hk, H, hf⟩
        | goto l => exact hT (.goto l) _ _ ⟨a, L, γ, hk, H, hf⟩
        | ret => exact hT .ret _ _ ⟨a, L, γ, hk, H, hf⟩
        | panic c => exact hT (.panic c) _ _ ⟨a, L, γ, hk, H, hf⟩
        | outgrown => exact hT .outgrown _ _ ⟨a, L, γ, hk, H, hf⟩
      unfold tx at e
      split at e
      · have hT := tthen_sim (h0 := h0) (W0 := W0) (P := E.P) (A := fun fa h => xWp E.P k Q fa h) (fun fa h ⟨a, L, γ, e, H, hf⟩ => (tx_both hE k).1 (p := 8 * p + 1) hQ H hf e) hQ
        exact (tx_both hE x).1 (hblk hT) H hf e
      · rename_i S hS
        obtain ⟨s1, h1, hz⟩ := tjoin_some e
        have hJ := tjoin_sim hE (hE.joins _ _ hS) (tx_both hE k).1 hz hQ
        exact (tx_both hE x).1 (hblk hJ) H hf h1), fun hQ H hf e => (by cases e)⟩
  | .loop x k => ⟨fun {p R K z Q γ L h a fa} hQ H hf e => (by
      have hT := tthen_sim (h0 := h0) (W0 := W0) (P := E.P) (A := fun fa h => xWp E.P k Q fa h) (fun fa h ⟨a, L, γ, e, H, hf⟩ => (tx_both hE k).1 (p := 8 * p + 1) hQ H hf e) hQ
      unfold tx at e
      unfold xWp
      split at e
      · rename_i S hS
        exact tloop_sound hE (tx_both hE x).1 (hE.loops _ _ hS) (fun e fa h _ hs => hT e fa h hs) H hf e
      · cases e), fun hQ H hf e => (by cases e)⟩
  | .scope x labs k => ⟨fun {p R K z Q γ L h a fa} hQ H hf e => (by
      have hT := tthen_sim (h0 := h0) (W0 := W0) (P := E.P) (A := fun fa h => xWp E.P k Q fa h) (fun fa h ⟨a, L, γ, e, H, hf⟩ => (tx_both hE k).1 (p := 8 * p + 1) hQ H hf e) hQ
      unfold xWp
      rintro c rfl hl
      unfold tx at e
      have hJ := tjump_sound (h0 := h0) (W0 := W0) (K := tthen (fun a L => tx E k none (8 * p + 1) R K a L) K) (z := z) hE (tx_both hE labs).2 (p := 8 * p + 3) (shp := fun l => E.loops (8 * (8 * p + 4) + l)) (fun l S hS => hE.loops _ _ hS) (c := c) hl 20 (cur := none) (Q := goQ E.P c (thenQ (fun fa h => xWp E.P k Q fa h) Q)) (fun e fa h hc hs => by
        have := hT e fa h hs
        cases e with
        | goto l => exact absurd (hc l rfl) (fun q => by cases q)
        | exit id => exact this
        | normal => exact this
        | ret => exact this
        | panic c => exact this
        | outgrown => exact this) (fun l rest fa h hr hw => ⟨rest, hr, swp_round hw⟩)
      exact swp_scope (swp_round (xOf_nil ((tx_both hE (xOf E.P c .nil)).1 hJ H hf e)))), fun hQ H hf e => (by cases e)⟩
  | .lcons l' y r => ⟨fun hQ H hf e => (by cases e), fun {l p R K z Q γ L h a fa} hQ H hf e => (by
      unfold tx at e
      unfold labX
      split at e
      · rename_i hc; rw [if_pos hc.symm]; exact ⟨y, rfl, (tx_both hE y).1 hQ H hf e⟩
      · rename_i hc; rw [if_neg fun q => hc q.symm]; exact (tx_both hE r).2 hQ H hf e)⟩
end
end Go.Sim

set_option linter.unusedVariables false
namespace Go.Sim
open Go.RowKit
section
variable {R : Type} {P : Program}
theorem tres_enc {a : TFrm} {L : List TO} {z : R} : ∀ {rs : List ResultVar} {K : List TV → Tree R}, (tres P a L rs K).run = some z → ∃ ds, dresultsV P (encF a) (eL L) rs = some (ds.map enc) ∧ (K ds).run = some z
  | [], K, e => ⟨[], rfl, e⟩
  | .tmp t :: r, K, e => by
    unfold tres at e
    replace e := obind_some e; obtain ⟨d, h1, e⟩ := e
    obtain ⟨ds, h2, e⟩ := tres_enc e
    refine ⟨d :: ds, ?_, e⟩
    have : dresultV P (encF a) (eL L) (.tmp t) = some (enc d) := by
      show dlook t (a.l.map fun p => (p.1, enc p.2)) = _
      rw [dlook_enc, h1]; rfl
    unfold dresultsV
    rw [this, h2]; rfl
  | .cell p t :: r, K, e => by
    unfold tres at e
    replace e := obind_some e; obtain ⟨x, h1, e⟩ := e
    obtain ⟨d, h3, e⟩ := tload_enc e
    obtain ⟨ds, h2, e⟩ := tres_enc e
    refine ⟨d :: ds, ?_, e⟩
    have : dresultV P (encF a) (eL L) (.cell p t) = some (enc d) := by
      have hx : dlook p (encF a).l = some (enc x) := by show dlook p (a.l.map fun p => (p.1, enc p.2)) = _; rw [dlook_enc, h1]; rfl
      show (match dlook p (encF a).l with
        | some d => dloadV P (eL L) t d
        | none => none) = _
      rw [hx]
      exact h3
    unfold dresultsV
    rw [this, h2]; rfl
theorem enc1_of {d : TV} (h : is1T d = true) : enc d = enc1 d := by cases d <;> first | rfl | cases h
theorem enc1s_of : ∀ {ds : List TV}, ds.all is1T = true → ds.map enc = ds.map enc1 ∧ (ds.map enc).all is1 = true
  | [], _ => ⟨rfl, rfl⟩
  | d :: l, h => by
    simp only [List.all_cons, Bool.and_eq_true] at h
    obtain ⟨h1, h2⟩ := enc1s_of h.2
    refine ⟨?_, ?_⟩
    · rw [List.map_cons, List.map_cons, h1, enc1_of h.1]
    · rw [List.map_cons, List.all_cons, h2, is1_enc, h.1]; rfl
theorem tpack_enc {ds : List TV} {d : TV} (h : tpack ds = some d) : packD (ds.map enc) = some (enc d) := by
  unfold tpack at h
  split at h
  · cases h; rfl
  · rename_i hn
    split at h
    · rename_i ha
      cases h
      obtain ⟨h1, h2⟩ := enc1s_of ha
      cases ds with
      | nil => rfl
      | cons x l =>
        cases l with
        | nil => exact absurd rfl (hn x)
        | cons y m =>
          show (if ((x :: y :: m).map enc).all is1 then some (DV.tup ((x :: y :: m).map enc)) else none) = _
          rw [if_pos h2, h1]; rfl
    · cases h
theorem targ_enc : ∀ (k : Nat) (ds : List TV), (targSlots k ds).map (fun p => (p.1, enc p.2)) = dargSlots k (ds.map enc)
  | k, [] => rfl
  | k, d :: l => by simp only [targSlots, List.map_cons, dargSlots, targ_enc (k + 1) l]
/-- What holds of a function, by its body. -/
def fnOk (P : Program) (f : FuncId) (n : Nat) : Bool := match P.funcs[f]? with
  | some fn => fn.body.isSome && !(fn.name == "runtime.NumGoroutine") && decide (n ≤ fn.ntmps)
  | none => false
theorem tfun_calls {E : TEnv} (hE : EnvOk E) {f : FuncId} {ds : List TV} {A : List TO} {K : TV → List TO → Tree R} {z : R} {Q : DV → List Obj → Prop} (hfn : fnOk E.P f ds.length = true) (e : (tfun E f ds A K).run = some z)
    (hK : ∀ d L, (K d L).run = some z → retQ E.P A.length Q (enc d) (eL L)) : DCalls E.P f (ds.map enc) (eL A) Q := by
  unfold tfun at e
  replace e := obind_some e; obtain ⟨fn, hf, e⟩ := e
  unfold fnOk at hfn
  rw [hf] at hfn
  simp only [Bool.and_eq_true, Bool.not_eq_true', decide_eq_true_eq] at hfn
  obtain ⟨⟨h1, h3⟩, h4⟩ := hfn
  intro W0 γ h vs hcnt H hr
  rw [eL_len] at hcnt
  let W1 : Ent := { W0 with cnt := A.length, few := fun id b e => Nat.lt_of_lt_of_le (W0.few id b e) hcnt }
  have H1 : Hp E.P h W1 γ (eL A) h := ⟨H.start, H.pin, H.obj, H.inj, H.dom, H.new, H.next, H.frame⟩
  cases hbd : fn.body with
  | none => rw [hbd] at h1; cases h1
  | some c =>
    have hb : bodyOf fn = c := by simp [bodyOf, hbd]
    rw [hb] at e
    have hlen : vs.length ≤ fn.ntmps := by rw [← hr.length]; simpa using h4
    refine ACalls.vw (Q := fun v h' => ∃ γ' r L', retQ E.P A.length Q r L' ∧ Hp E.P h W1 γ' L' h' ∧ DR E.P (Free W1 γ' L' h') γ' L' h' r v) (acalls_intro hf hbd rfl rfl h3 hlen (xOf_nil ?_)) ?_
    · have hx : TxOk E h W1 (xOf E.P c .nil) := (tx_both hE _).1
      have hF : FR E.P W1 γ (eL A) h (encF ⟨fn.ntmps, A.length, targSlots 0 ds⟩) ⟨fn.ntmps, argSlots 0 vs⟩ := ⟨rfl, rfl, fun t d e => dargs_sound 0 hr t d (by rw [← targ_enc]; exact e)⟩
      refine hx (z := z) ?_ H1 hF e
      rintro e fa h' ⟨a, L', γ', hq, H', hf'⟩
      have fin : (tres E.P a L' fn.results.toList fun ds => obind (tpack ds) fun d => K d L').run = some z → ∃ vs, resultsV E.P fa h' fn.results.toList = some vs ∧ ∃ γ' r L', retQ E.P A.length Q r L' ∧ Hp E.P h W1 γ' L' h' ∧ DR E.P (Free W1 γ' L' h') γ' L' h' r (packV vs) := by
        intro hq
        obtain ⟨ds', e1, hq⟩ := tres_enc hq
        replace hq := obind_some hq; obtain ⟨d, e2, hq⟩ := hq
        obtain ⟨vs', e3, r3⟩ := dresults_sound H' hf' e1
        exact ⟨vs', e3, γ', _, _, hK d L' hq, H', pack_sound r3 (tpack_enc e2)⟩
      cases e with
      | normal => exact fin hq
      | ret => exact fin hq
      | exit id => cases hq
      | goto l => cases hq
      | panic c => cases hq
      | outgrown => cases hq
    · rintro v h' ⟨γ', r, L', ⟨sel, r', A', ok, hp, hw, hq⟩, H', hd⟩
      have hpin : ∀ id b, W1.pin id b → sel[id]? = some (some id) := fun id b e => hp id (W1.few id b e)
      obtain ⟨u, hu, hd'⟩ := wkD_sound H' ok hw hd
      have H2 := H'.select ok hpin
      exact ⟨u, hu, _, r', A', hq, ⟨H2.start, H2.pin, H2.obj, H2.inj, H2.dom, H2.new, H2.next, H2.frame⟩, hd'⟩
end
end Go.Sim

set_option linter.unusedVariables false
namespace Go.Sim
open Go.RowKit

/-- A shape of values: what is fixed of them, and what is told. -/
inductive VS where
  | int (k : IntKind)
  | bool
  | str
  | cst (x : Value)
  | sl (c : CT)
  | ptr (k off : Nat)
  | own (k : Nat)
  | nil
  | cons (a b : VS)
  | fn (f : FuncId) (pre cap : VS)
  | agg (l : VS)
  | tup (l : VS)
/-- Of objects. -/
inductive OS where
  | st (cells : VS)
  | li (c : CT) (e : TypeId) (loc : Bool)
  | dead
def SP (ta tb : Bool) (A B : Type) : Type := match ta with
  | true => B
  | false => match tb with
    | true => A
    | false => A × B
def SP.fst {ta tb : Bool} {A B : Type} (d : A) (p : SP ta tb A B) : A := match ta, tb, p with
  | true, _, _ => d
  | false, true, p => p
  | false, false, p => p.1
def SP.snd {ta tb : Bool} {A B : Type} (d : B) (p : SP ta tb A B) : B := match ta, tb, p with
  | true, _, p => p
  | false, true, _ => d
  | false, false, p => p.2
def SP.mk {ta tb : Bool} {A B : Type} (x : A) (y : B) : SP ta tb A B := match ta, tb with
  | true, _ => y
  | false, true => x
  | false, false => (x, y)
theorem SP.fst_mk {ta tb : Bool} {A B : Type} {d x : A} {y : B} (h : ta = true → x = d) : SP.fst d (SP.mk (ta := ta) (tb := tb) x y) = x := by
  cases ta
  · cases tb <;> rfl
  · exact (h rfl).symm
theorem SP.snd_mk {ta tb : Bool} {A B : Type} {d y : B} {x : A} (h : tb = true → y = d) : SP.snd d (SP.mk (ta := ta) (tb := tb) x y) = y := by
  cases ta
  · cases tb
    · rfl
    · exact (h rfl).symm
  · rfl
def VS.triv : VS → Bool
  | .int _ => false
  | .bool => false
  | .str => false
  | .sl _ => false
  | .cst _ => true
  | .ptr _ _ => true
  | .own _ => true
  | .nil => true
  | .cons a b => a.triv && b.triv
  | .fn _ a b => a.triv && b.triv
  | .agg l => l.triv
  | .tup l => l.triv
def VS.T : VS → Type
  | .int _ => Int
  | .bool => Bool
  | .str => ByteArray
  | .sl c => List c.T
  | .cst _ => Unit
  | .ptr _ _ => Unit
  | .own _ => Unit
  | .nil => Unit
  | .cons a b => SP a.triv b.triv a.T b.T
  | .fn _ a b => SP a.triv b.triv a.T b.T
  | .agg l => l.T
  | .tup l => l.T
def VS.dfl : (s : VS) → s.T
  | .int _ => (0 : Int)
  | .bool => false
  | .str => ByteArray.empty
  | .sl _ => []
  | .cst _ => ()
  | .ptr _ _ => ()
  | .own _ => ()
  | .nil => ()
  | .cons a b => SP.mk a.dfl b.dfl
  | .fn _ a b => SP.mk a.dfl b.dfl
  | .agg l => l.dfl
  | .tup l => l.dfl
theorem sp_triv {ta tb : Bool} {A B : Type} {da : A} {db : B} (ha : ta = true → ∀ x : A, x = da) (hb : tb = true → ∀ x : B, x = db) (h : (ta && tb) = true) (p : SP ta tb A B) : p = SP.mk da db := by
  cases ta
  · cases h
  · cases tb
    · cases h
    · exact hb rfl p
theorem VS.triv_dfl : ∀ (s : VS), s.triv = true → ∀ x : s.T, x = s.dfl
  | .int _, h => (by cases h)
  | .bool, h => (by cases h)
  | .str, h => (by cases h)
  | .sl _, h => (by cases h)
  | .cst _, _ => fun x => rfl
  | .ptr _ _, _ => fun x => rfl
  | .own _, _ => fun x => rfl
  | .nil, _ => fun x => rfl
  | .cons a b, h => fun x => sp_triv (VS.triv_dfl a) (VS.triv_dfl b) h x
  | .fn _ a b, h => fun x => sp_triv (VS.triv_dfl a) (VS.triv_dfl b) h x
  | .agg l, h => VS.triv_dfl l h
  | .tup l, h => VS.triv_dfl l h
/-- Values of a shape; objects have numbers and lists have lengths. -/
def VS.ins (f len : Nat → Nat) : (s : VS) → s.T → List TV
  | .int k, n => [.v (.int k n)]
  | .bool, b => [.v (.bool b)]
  | .str, s => [.v (.string s)]
  | .sl c, xs => [.sl c xs]
  | .cst x, _ => [.v x]
  | .ptr k off, _ => [.ptr (f k) off]
  | .own k, _ => [.ref (f k) (len k)]
  | .nil, _ => []
  | .cons a b, p => a.ins f len (SP.fst a.dfl p) ++ b.ins f len (SP.snd b.dfl p)
  | .fn g a b, p => [.fn g (a.ins f len (SP.fst a.dfl p)) (b.ins f len (SP.snd b.dfl p))]
  | .agg l, p => [.agg (l.ins f len p)]
  | .tup l, p => [.tup (l.ins f len p)]
def OS.triv : OS → Bool
  | .st l => l.triv
  | .li _ _ _ => false
  | .dead => true
def OS.T : OS → Type
  | .st l => l.T
  | .li c _ _ => List c.T
  | .dead => Unit
def OS.dfl : (o : OS) → o.T
  | .st l => l.dfl
  | .li _ _ _ => []
  | .dead => ()
def OS.ins (f len : Nat → Nat) : (o : OS) → o.T → TO
  | .st l, p => .st (l.ins f len p)
  | .li c e loc, xs => .li c e loc xs
  | .dead, _ => .dead
def OS.trivs : List OS → Bool
  | [] => true
  | o :: r => o.triv && OS.trivs r
def OS.Ts : List OS → Type
  | [] => Unit
  | o :: r => SP o.triv (OS.trivs r) o.T (OS.Ts r)
def OS.dfls : (os : List OS) → OS.Ts os
  | [] => ()
  | o :: r => SP.mk o.dfl (OS.dfls r)
def OS.inss (f len : Nat → Nat) : (os : List OS) → OS.Ts os → List TO
  | [], _ => []
  | o :: r, p => o.ins f len (SP.fst o.dfl p) :: OS.inss f len r (SP.snd (OS.dfls r) p)
theorem OS.triv_dfl : ∀ (o : OS), o.triv = true → ∀ x : o.T, x = o.dfl
  | .st l, h => VS.triv_dfl l h
  | .li _ _ _, h => (by cases h)
  | .dead, _ => fun x => rfl
theorem OS.trivs_dfl : ∀ (os : List OS), OS.trivs os = true → ∀ x : OS.Ts os, x = OS.dfls os
  | [], _ => fun x => rfl
  | o :: r, h => fun x => sp_triv (OS.triv_dfl o) (OS.trivs_dfl r) h x
def olen : (o : OS) → o.T → Nat
  | .li _ _ _, xs => List.length xs
  | _, _ => 0
/-- How many a list has. -/
def OS.lens : (os : List OS) → OS.Ts os → Nat → Nat
  | [], _, _ => 0
  | o :: r, p, k => match k with
    | 0 => olen o (SP.fst o.dfl p)
    | k + 1 => OS.lens r (SP.snd (OS.dfls r) p) k
/-- What is known of the numbers; conditions; lists that are given up. -/
structure Bd where
  b : List (Option (Option Nat))
  eqs : List (Nat × Nat)
  used : List Nat
def bindO (B : Bd) (k : Nat) (x : Option Nat) : Option Bd := match B.b[k]? with
  | some none => some ⟨B.b.set k (some x), B.eqs, B.used⟩
  | some (some y) => if y = x then some B else none
  | none => none
def decSl (P : Program) (L : List TO) (c : CT) (x : TV) (B : Bd) (m : Nat) : Option (List c.T × Bd) := match x with
  | .sl c' xs => if h : c'.eqb c = true then some (castS (CT.of_eqb h) xs, B) else none
  | .v (.slice none 0 0) => if m = 0 then none else some ([], B)
  | .ref id tot => if 2 ≤ m then (match L[id]? with
    | some (.li c' e _ xs) => if szT P e = some c.size then (if h : c'.eqb c = true then some (castS (CT.of_eqb h) xs, ⟨B.b, (xs.length, tot) :: B.eqs, id :: B.used⟩) else none) else none
    | some (.fz c' e _ xs) => if szT P e = some c.size then (if h : c'.eqb c = true then some (castS (CT.of_eqb h) xs, ⟨B.b, (xs.length, tot) :: B.eqs, id :: B.used⟩) else none) else none
    | _ => none) else none
  | .part id lo n tot => if 2 ≤ m then (match L[id]? with
    | some (.li c' e _ xs) => if szT P e = some c.size then (if h : c'.eqb c = true then some ((List.drop lo (castS (CT.of_eqb h) xs)).take n, ⟨B.b, (xs.length, tot) :: B.eqs, id :: B.used⟩) else none) else none
    | some (.fz c' e _ xs) => if szT P e = some c.size then (if h : c'.eqb c = true then some ((List.drop lo (castS (CT.of_eqb h) xs)).take n, ⟨B.b, (xs.length, tot) :: B.eqs, id :: B.used⟩) else none) else none
    | _ => none) else none
  | _ => none
/-- Cells. -/
def decC (P : Program) (L : List TO) (m : Nat) : (s : VS) → List TV → Bd → Option (s.T × List TV × Bd)
  | .int k, l, B => match l with
    | .v (.int k' n) :: r => if k = k' then some (n, r, B) else none
    | _ => none
  | .bool, l, B => match l with
    | .v (.bool b) :: r => some (b, r, B)
    | _ => none
  | .str, l, B => match l with
    | .v (.string s) :: r => some (s, r, B)
    | _ => none
  | .cst x, l, B => match l with
    | .v y :: r => if valEq x y = true then some ((), r, B) else none
    | _ => none
  | .sl c, l, B => match l with
    | x :: r => match decSl P L c x B m with
      | some (xs, B') => some (xs, r, B')
      | none => none
    | _ => none
  | .ptr k off, l, B => match l with
    | .ptr id off' :: r => if off = off' then (match bindO B k (some id) with
      | some B' => some ((), r, B')
      | none => none) else none
    | _ => none
  | .own k, l, B => match l with
    | .ref id tot :: r => match tlen L id, bindO B k (some id) with
      | some n, some B' => some ((), r, ⟨B'.b, (tot, n) :: B'.eqs, B'.used⟩)
      | _, _ => none
    | .v (.slice none 0 0) :: r => if m = 0 then none else (match bindO B k none with
      | some B' => some ((), r, B')
      | none => none)
    | _ => none
  | .nil, l, B => some ((), l, B)
  | .cons a b, l, B => match decC P L m a l B with
    | some (x, l', B') => match decC P L m b l' B' with
      | some (y, l'', B'') => some (SP.mk x y, l'', B'')
      | none => none
    | none => none
  | .fn g a b, l, B => match l with
    | .fn g' pre cap :: r => if g = g' ∧ pre.all baseT = true ∧ cap.all baseT = true then (match decC P L 0 a pre B with
      | some (x, [], B') => match decC P L 0 b cap B' with
        | some (y, [], B'') => some (SP.mk x y, r, B'')
        | _ => none
      | _ => none) else none
    | _ => none
  | .agg _, _, _ => none
  | .tup _, _, _ => none
/-- Cells and structures. -/
def decA (P : Program) (L : List TO) (m : Nat) : (s : VS) → List TV → Bd → Option (s.T × List TV × Bd)
  | .agg s, l, B => match l with
    | .agg xs :: r => match decC P L m s xs B with
      | some (x, [], B') => some (x, r, B')
      | _ => none
    | _ => none
  | .cons a b, l, B => match decA P L m a l B with
    | some (x, l', B') => match decA P L m b l' B' with
      | some (y, l'', B'') => some (SP.mk x y, l'', B'')
      | none => none
    | none => none
  | s, l, B => decC P L m s l B
def decT (P : Program) (L : List TO) (m : Nat) : (s : VS) → List TV → Bd → Option (s.T × List TV × Bd)
  | .tup s, l, B => match l with
    | .tup xs :: r => match decA P L m s xs B with
      | some (x, [], B') => some (x, r, B')
      | _ => none
    | _ => none
  | .cons a b, l, B => match decT P L m a l B with
    | some (x, l', B') => match decT P L m b l' B' with
      | some (y, l'', B'') => some (SP.mk x y, l'', B'')
      | none => none
    | none => none
  | s, l, B => decA P L m s l B
/-- One object. -/
def decO1 (P : Program) (L : List TO) (m : Nat) : (o : OS) → Option (Option (Option Nat)) → Bd → Option (o.T × Bd)
  | .st s, x, B => match x with
    | some (some (some id)) => match L[id]? with
      | some (.st cells) => match decC P L m s cells B with
        | some (x, [], B') => some (x, B')
        | _ => none
      | _ => none
    | _ => none
  | .li c e loc, x, B => match x with
    | some (some (some id)) => match L[id]? with
      | some (.li c' e' loc' xs) => if e' = e ∧ loc' = loc then (if h : c'.eqb c = true then some (castS (CT.of_eqb h) xs, B) else none) else none
      | _ => none
    | some (some none) => if loc = false ∧ m ≠ 0 then some (([] : List c.T), B) else none
    | _ => none
  | .dead, _, _ => none
/-- Objects, from the k-th on. -/
def decO (P : Program) (L : List TO) (m : Nat) : (os : List OS) → Nat → Bd → Option (OS.Ts os × Bd)
  | [], _, B => some ((), B)
  | o :: r, k, B => match decO1 P L m o B.b[k]? B with
    | some (x, B') => match decO P L m r (k + 1) B' with
      | some (y, B'') => some (SP.mk x y, B'')
      | none => none
    | none => none
def selOf : List (Option (Option Nat)) → Option Sel
  | [] => some []
  | x :: r => match x, selOf r with
    | some y, some ys => some (y :: ys)
    | _, _ => none
def nodupB : List Nat → Bool
  | [] => true
  | x :: r => !(r.contains x) && nodupB r
/-- What was bound is well bound. -/
def bdOk (c : Nat) (B : Bd) : Option Sel := match selOf B.b with
  | some sel => if nodupB (sel.filterMap id) && B.used.all (fun i => !(sel.contains (some i))) && fixes c sel then some sel else none
  | none => none
def bd0 (c n : Nat) : Bd := ⟨(List.range n).map fun k => if k < c then some (some k) else none, [], []⟩
end Go.Sim

set_option linter.unusedVariables false
namespace Go.Sim
open Go.RowKit
def Bd.le (B B' : Bd) : Prop := (∀ (k : Nat) (x : Option Nat), B.b[k]? = some (some x) → B'.b[k]? = some (some x)) ∧ (∀ p ∈ B.eqs, p ∈ B'.eqs) ∧ (∀ i ∈ B.used, i ∈ B'.used) ∧ B'.b.length = B.b.length
theorem Bd.le_refl (B : Bd) : B.le B := ⟨fun _ _ h => h, fun _ h => h, fun _ h => h, rfl⟩
theorem Bd.le_trans {B B' B'' : Bd} (h : B.le B') (h' : B'.le B'') : B.le B'' := ⟨fun k x e => h'.1 k x (h.1 k x e), fun p e => h'.2.1 p (h.2.1 p e), fun i e => h'.2.2.1 i (h.2.2.1 i e), h'.2.2.2.trans h.2.2.2⟩
structure WellB (L : List TO) (sel : Sel) (len : Nat → Nat) (B : Bd) : Prop where
  at' : ∀ (k : Nat) (x : Option Nat), B.b[k]? = some (some x) → sel[k]? = some x
  eqs : ∀ p ∈ B.eqs, p.1 = p.2
  used : ∀ i ∈ B.used, some i ∉ sel
  ln : ∀ k id n, sel[k]? = some (some id) → tlen L id = some n → len k = n
  no : ∀ k, sel[k]? = some none → len k = 0
theorem WellB.le {L : List TO} {sel : Sel} {len : Nat → Nat} {B B' : Bd} (h : B.le B') (g : WellB L sel len B') : WellB L sel len B := ⟨fun k x e => g.at' k x (h.1 k x e), fun p e => g.eqs p (h.2.1 p e), fun i e => g.used i (h.2.2.1 i e), g.ln, g.no⟩
theorem bindO_le {B B' : Bd} {k : Nat} {x : Option Nat} (h : bindO B k x = some B') : B.le B' ∧ B'.b[k]? = some (some x) ∧ B'.eqs = B.eqs ∧ B'.used = B.used := by
  unfold bindO at h
  split at h
  · rename_i hk
    cases h
    have hlt : k < B.b.length := (List.getElem?_eq_some_iff.1 hk).1
    refine ⟨⟨fun j y e => ?_, fun _ e => e, fun _ e => e, by simp⟩, List.getElem?_set_self hlt, rfl, rfl⟩
    have hne : k ≠ j := fun q => by rw [← q, hk] at e; cases e
    show (B.b.set k (some x))[j]? = _
    rw [List.getElem?_set_ne hne]; exact e
  · rename_i y hk
    split at h
    · rename_i hy
      cases h
      subst hy
      exact ⟨Bd.le_refl _, hk, rfl, rfl⟩
    · cases h
  · cases h
/-- How cells stand to those they are found from. -/
def rC (P : Program) (L : List TO) (sel : Sel) (m : Nat) (d' d : TV) : Prop := isC d' = true ∧ isC d = true ∧ match m with
  | 0 => unCx sel (encK d') = some (encK d)
  | 1 => unX sel (encK d') (encK d)
  | _ => wkC P (eL L) sel (encK d') (encK d)
section
variable {P : Program} {L : List TO} {sel : Sel} {len : Nat → Nat} {m : Nat}
theorem unB_of {d' d : DV} (e : unBx sel d' = some d) : unB sel d' = some d := by
  cases d' with
  | ref id lo n tot =>
    unfold unBx at e
    unfold unB
    simp only at e ⊢
    split at e
    · rename_i k hk; simp only [hk]; exact e
    · cases e
  | _ => exact e
theorem unBs_of : ∀ {ds' ds : List DV}, unBxs sel ds' = some ds → unBs sel ds' = some ds
  | [], _, e => e
  | d :: l, _, e => by
    unfold unBxs at e
    cases h1 : unBx sel d with
    | none => simp only [h1] at e; cases e
    | some x =>
      cases h2 : unBxs sel l with
      | none => simp only [h1, h2] at e; cases e
      | some y =>
        simp only [h1, h2] at e
        unfold unBs
        rw [unB_of h1, unBs_of h2]
        exact e
theorem unC_of {d' d : DV} (e : unCx sel d' = some d) : unC sel d' = some d := by
  cases d' with
  | fn f a b =>
    unfold unCx at e
    unfold unC
    cases h1 : unBxs sel a with
    | none => simp only [h1] at e; cases e
    | some x =>
      cases h2 : unBxs sel b with
      | none => simp only [h1, h2] at e; cases e
      | some y =>
        simp only [h1, h2] at e
        simp only [unBs_of h1, unBs_of h2]
        exact e
  | p x => exact unB_of (sel := sel) (d' := .p x) e
  | ptr x y => exact unB_of (sel := sel) (d' := .ptr x y) e
  | ep x y z w => exact unB_of (sel := sel) (d' := .ep x y z w) e
  | dp x y => exact unB_of (sel := sel) (d' := .dp x y) e
  | ref x y z w => exact unB_of (sel := sel) (d' := .ref x y z w) e
  | aref x y z => exact unB_of (sel := sel) (d' := .aref x y z) e
  | agg x => exact unB_of (sel := sel) (d' := .agg x) e
  | tup x => exact unB_of (sel := sel) (d' := .tup x) e
/-- Exactly so, under other numbers. -/
theorem rC_ex {d' d : TV} (h1 : isC d' = true) (h2 : isC d = true) (hs : ∀ c xs, d' ≠ .sl c xs) (e : unCx sel (encK d') = some (encK d)) : rC P L sel m d' d := by
  refine ⟨h1, h2, ?_⟩
  have hx : unX sel (encK d') (encK d) := by
    unfold unX
    split
    · rename_i z rows h3 h4
      cases d' <;> first | (cases h3; done) | exact absurd rfl (hs _ _) | cases h1
    · exact unC_of e
  have hw : wkC P (eL L) sel (encK d') (encK d) := by
    unfold wkC
    split
    · rename_i z rows id lo n tot h3 h4
      cases d' <;> first | (cases h3; done) | exact absurd rfl (hs _ _) | cases h1
    · exact hx
  split
  · exact e
  · exact hx
  · exact hw
theorem rC_v (x : Value) : rC P L sel m (.v x) (.v x) := rC_ex rfl rfl (fun _ _ h => by cases h) rfl
theorem rC_sl (c : CT) (xs : List c.T) : rC P L sel m (.sl c xs) (.sl c xs) := by
  refine ⟨rfl, rfl, ?_⟩
  split
  · rfl
  · show unX sel (.p (.sl _ _)) (.p (.sl _ _))
    rw [unX_ss]; exact ⟨rfl, rfl⟩
  · show wkC P (eL L) sel (.p (.sl _ _)) (.p (.sl _ _))
    rw [wkC_ss]; exact ⟨rfl, rfl⟩
theorem rC_nil (c : CT) (h : m ≠ 0) : rC P L sel m (.sl c []) (.v (.slice none 0 0)) := by
  refine ⟨rfl, rfl, ?_⟩
  split
  · exact absurd rfl h
  · exact (rfl : _ = _)
  · exact (rfl : _ = _)
theorem rC_ref {c : CT} {id lo n tot : Nat} {xs : List c.T} {e : TypeId} {loc : Bool} {o : TO} {d : TV} (hd : encK d = .ref id lo n tot) (hc : isC d = true) (hm : 2 ≤ m) (hL : L[id]? = some o) (ho : o = .li c e loc xs ∨ o = .fz c e loc xs) (hz : szT P e = some c.size) (ht : xs.length = tot) (hn : some id ∉ sel) :
    rC P L sel m (.sl c ((xs.drop lo).take n)) d := by
  refine ⟨rfl, hc, ?_⟩
  have hw : wkC P (eL L) sel (encK (.sl c ((xs.drop lo).take n))) (encK d) := by
    rw [hd]
    show wkC P (eL L) sel (.p (.sl _ _)) (.ref id lo n tot)
    rw [wkC_ref]
    refine ⟨hn, ?_⟩
    rcases ho with rfl | rfl
    · exact ⟨_, rows_li hL ht, by rw [List.map_take, List.map_drop], by rw [eL_get hL]; exact eo_sz hz⟩
    · exact ⟨_, rows_fz hL ht, by rw [List.map_take, List.map_drop], by rw [eL_get hL]; exact eo_sz hz⟩
  split
  · omega
  · omega
  · exact hw
theorem decSl_sound {c : CT} {x : TV} {B B' : Bd} {xs : List c.T} (h : decSl P L c x B m = some (xs, B')) : B.le B' ∧ (WellB L sel len B' → rC P L sel m (.sl c xs) x) := by
  unfold decSl at h
  split at h
  · rename_i c' ys
    split at h
    · rename_i hc
      have := CT.of_eqb hc
      subst this
      cases h
      exact ⟨Bd.le_refl _, fun _ => rC_sl _ _⟩
    · cases h
  · split at h
    · cases h
    · rename_i hm; cases h; exact ⟨Bd.le_refl _, fun _ => rC_nil _ hm⟩
  · rename_i id tot
    have fin : ∀ {c' : CT} {e : TypeId} {loc : Bool} {ys : List c'.T} {o : TO}, L[id]? = some o → (o = .li c' e loc ys ∨ o = .fz c' e loc ys) → 2 ≤ m →
        (if szT P e = some c.size then (if h : c'.eqb c = true then some (castS (CT.of_eqb h) ys, (⟨B.b, (ys.length, tot) :: B.eqs, id :: B.used⟩ : Bd)) else none) else none) = some (xs, B') → B.le B' ∧ (WellB L sel len B' → rC P L sel m (.sl c xs) (.ref id tot)) := by
      intro c' e loc ys o hL ho hm h
      split at h
      · rename_i hz
        split at h
        · rename_i hc
          have := CT.of_eqb hc
          subst this
          cases h
          refine ⟨⟨fun _ _ e => e, fun _ e => List.mem_cons_of_mem _ e, fun _ e => List.mem_cons_of_mem _ e, rfl⟩, fun g => ?_⟩
          have ht := g.eqs _ List.mem_cons_self
          have hn := g.used _ List.mem_cons_self
          have := rC_ref (sel := sel) (m := m) (d := .ref id tot) (lo := 0) (n := tot) rfl rfl hm hL ho hz ht hn
          rw [List.drop_zero, List.take_of_length_le (Nat.le_of_eq ht)] at this
          exact this
        · cases h
      · cases h
    split at h
    · rename_i hm
      split at h
      · rename_i hL; exact fin hL (.inl rfl) hm h
      · rename_i hL; exact fin hL (.inr rfl) hm h
      · cases h
    · cases h
  · rename_i id lo n tot
    have fin : ∀ {c' : CT} {e : TypeId} {loc : Bool} {ys : List c'.T} {o : TO}, L[id]? = some o → (o = .li c' e loc ys ∨ o = .fz c' e loc ys) → 2 ≤ m →
        (if szT P e = some c.size then (if h : c'.eqb c = true then some ((List.drop lo (castS (CT.of_eqb h) ys)).take n, (⟨B.b, (ys.length, tot) :: B.eqs, id :: B.used⟩ : Bd)) else none) else none) = some (xs, B') → B.le B' ∧ (WellB L sel len B' → rC P L sel m (.sl c xs) (.part id lo n tot)) := by
      intro c' e loc ys o hL ho hm h
      split at h
      · rename_i hz
        split at h
        · rename_i hc
          have := CT.of_eqb hc
          subst this
          cases h
          refine ⟨⟨fun _ _ e => e, fun _ e => List.mem_cons_of_mem _ e, fun _ e => List.mem_cons_of_mem _ e, rfl⟩, fun g => ?_⟩
          have ht := g.eqs _ List.mem_cons_self
          have hn := g.used _ List.mem_cons_self
          exact rC_ref (sel := sel) (m := m) (d := .part id lo n tot) (lo := lo) (n := n) rfl rfl hm hL ho hz ht hn
        · cases h
      · cases h
    split at h
    · rename_i hm
      split at h
      · rename_i hL; exact fin hL (.inl rfl) hm h
      · rename_i hL; exact fin hL (.inr rfl) hm h
      · cases h
    · cases h
  · cases h
theorem bases_ex : ∀ {l' l : List TV}, l.all baseT = true → All2 (rC P L sel 0) l' l → unBxs sel (l'.map encB) = some (l.map encB)
  | [], _, _, .nil => rfl
  | d' :: l', d :: l, hb, .cons h t => by
    simp only [List.all_cons, Bool.and_eq_true] at hb
    have ht := bases_ex hb.2 t
    have hk : encK d = encB d := by cases d <;> first | rfl | cases hb.1
    have h3 : unCx sel (encK d') = some (encB d) := by rw [← hk]; exact h.2.2
    have hx : unBx sel (encB d') = some (encB d) := by
      cases d' with
      | fn g a b =>
        exfalso
        have h4 : (match unBxs sel (a.map encB), unBxs sel (b.map encB) with
          | some a, some b => some (DV.fn g a b)
          | _, _ => none) = some (encB d) := h3
        split at h4
        · cases d <;> first | (cases h4; done) | cases hb.1
        · cases h4
      | agg xs => cases h.1
      | tup xs => cases h.1
      | v x => exact h3
      | sl c xs => exact h3
      | ptr x y => exact h3
      | ep x y z w => exact h3
      | dp c x y => exact h3
      | ref x y => exact h3
      | part x y z w => exact h3
      | aref x y z => exact h3
    simp only [List.map_cons, unBxs, hx, ht]
theorem decC_sound : ∀ (m : Nat) (s : VS) {l r : List TV} {B B' : Bd} {p : s.T}, decC P L m s l B = some (p, r, B') → B.le B' ∧ (WellB L sel len B' → ∃ l0, l = l0 ++ r ∧ All2 (rC P L sel m) (s.ins id len p) l0)
  | m, .int k, l, r, B, B', p, h => by
    simp only [decC] at h
    split at h
    · split at h
      · rename_i hk; cases h; subst hk; exact ⟨Bd.le_refl _, fun _ => ⟨[_], rfl, .cons (rC_v _) .nil⟩⟩
      · cases h
    · cases h
  | m, .bool, l, r, B, B', p, h => by
    simp only [decC] at h
    split at h
    · cases h; exact ⟨Bd.le_refl _, fun _ => ⟨[_], rfl, .cons (rC_v _) .nil⟩⟩
    · cases h
  | m, .str, l, r, B, B', p, h => by
    simp only [decC] at h
    split at h
    · cases h; exact ⟨Bd.le_refl _, fun _ => ⟨[_], rfl, .cons (rC_v _) .nil⟩⟩
    · cases h
  | m, .cst x, l, r, B, B', p, h => by
    simp only [decC] at h
    split at h
    · split at h
      · rename_i hv
        cases h
        have := valEq_sound _ _ hv
        subst this
        exact ⟨Bd.le_refl _, fun _ => ⟨[_], rfl, .cons (rC_v _) .nil⟩⟩
      · cases h
    · cases h
  | m, .sl c, l, r, B, B', p, h => by
    simp only [decC] at h
    split at h
    · split at h
      · rename_i hd
        cases h
        obtain ⟨h1, h2⟩ := decSl_sound (sel := sel) (len := len) hd
        exact ⟨h1, fun g => ⟨[_], rfl, .cons (h2 g) .nil⟩⟩
      · cases h
    · cases h
  | m, .ptr k off, l, r, B, B', p, h => by
    simp only [decC] at h
    split at h
    · split at h
      · rename_i ho
        split at h
        · rename_i hb
          cases h
          subst ho
          obtain ⟨h1, h2, _, _⟩ := bindO_le hb
          refine ⟨h1, fun g => ⟨[_], rfl, .cons (rC_ex rfl rfl (fun _ _ q => by cases q) ?_) .nil⟩⟩
          have hs := g.at' _ _ h2
          show unBx sel (.ptr k off) = _
          unfold unBx unB
          simp only [hs]
          rfl
        · cases h
      · cases h
    · cases h
  | m, .own k, l, r, B, B', p, h => by
    simp only [decC] at h
    split at h
    · split at h
      · rename_i n B1 hn hb
        cases h
        obtain ⟨h1, h2, h3, h4⟩ := bindO_le hb
        refine ⟨⟨h1.1, fun p hp => List.mem_cons_of_mem _ (h1.2.1 p hp), h1.2.2.1, h1.2.2.2⟩, fun g => ⟨[_], rfl, .cons (rC_ex rfl rfl (fun _ _ q => by cases q) ?_) .nil⟩⟩
        have hs := g.at' _ _ h2
        have ht := g.eqs _ List.mem_cons_self
        have hl := g.ln _ _ _ hs hn
        simp only at ht
        show unBx sel (.ref k 0 (len k) (len k)) = some (.ref _ 0 _ _)
        unfold unBx
        simp only [hs, hl, ht]
      · cases h
    · split at h
      · cases h
      · rename_i hm
        split at h
        · rename_i hb
          cases h
          obtain ⟨h1, h2, _, _⟩ := bindO_le hb
          refine ⟨h1, fun g => ⟨[_], rfl, .cons ⟨rfl, rfl, ?_⟩ .nil⟩⟩
          have hs := g.at' _ _ h2
          have hl := g.no _ hs
          have hu : unC sel (.ref k 0 (len k) (len k)) = some (.p (.v (.slice none 0 0))) := by
            show unB sel (.ref k 0 (len k) (len k)) = _
            unfold unB
            simp only [hs, hl, and_self, if_true]
          split
          · exact absurd rfl hm
          · exact hu
          · exact hu
        · cases h
    · cases h
  | m, .nil, l, r, B, B', p, h => by
    simp only [decC] at h
    cases h
    exact ⟨Bd.le_refl _, fun _ => ⟨[], rfl, .nil⟩⟩
  | m, .cons a b, l, r, B, B', p, h => by
    simp only [decC] at h
    split at h
    · rename_i x l' B1 h1
      split at h
      · rename_i y l'' B2 h2
        cases h
        obtain ⟨a1, a2⟩ := decC_sound m a h1
        obtain ⟨b1, b2⟩ := decC_sound m b h2
        refine ⟨Bd.le_trans a1 b1, fun g => ?_⟩
        obtain ⟨m1, rfl, q1⟩ := a2 (g.le b1)
        obtain ⟨m2, rfl, q2⟩ := b2 g
        refine ⟨m1 ++ m2, by simp, ?_⟩
        show All2 _ (a.ins id len (SP.fst a.dfl (SP.mk x y)) ++ b.ins id len (SP.snd b.dfl (SP.mk x y))) _
        rw [SP.fst_mk fun q => VS.triv_dfl a q x, SP.snd_mk fun q => VS.triv_dfl b q y]
        exact q1.append q2
      · cases h
    · cases h
  | m, .fn g a b, l, r, B, B', p, h => by
    simp only [decC] at h
    split at h
    · rename_i g' pre cap r'
      split at h
      · rename_i hc
        split at h
        · rename_i x B1 h1
          split at h
          · rename_i y B2 h2
            cases h
            obtain ⟨rfl, hp, hq⟩ := hc
            obtain ⟨a1, a2⟩ := decC_sound 0 a h1
            obtain ⟨b1, b2⟩ := decC_sound 0 b h2
            refine ⟨Bd.le_trans a1 b1, fun gd => ?_⟩
            obtain ⟨m1, hm1, q1⟩ := a2 (gd.le b1)
            obtain ⟨m2, hm2, q2⟩ := b2 gd
            rw [List.append_nil] at hm1 hm2
            subst hm1 hm2
            refine ⟨[_], rfl, .cons (rC_ex rfl rfl (fun _ _ q => by cases q) ?_) .nil⟩
            show unCx sel (.fn g ((a.ins id len (SP.fst a.dfl (SP.mk x y))).map encB) ((b.ins id len (SP.snd b.dfl (SP.mk x y))).map encB)) = _
            rw [SP.fst_mk fun q => VS.triv_dfl a q x, SP.snd_mk fun q => VS.triv_dfl b q y]
            unfold unCx
            simp only [bases_ex hp q1, bases_ex hq q2]
            rfl
          · cases h
        · cases h
      · cases h
    · cases h
  | m, .agg _, l, r, B, B', p, h => by simp only [decC] at h; cases h
  | m, .tup _, l, r, B, B', p, h => by simp only [decC] at h; cases h
end
end Go.Sim

set_option linter.unusedVariables false
namespace Go.Sim
open Go.RowKit
section
variable {P : Program} {L : List TO} {sel : Sel} {len : Nat → Nat}
def r1 (P : Program) (L : List TO) (sel : Sel) (m : Nat) (d' d : TV) : Prop := rC P L sel m d' d ∨ ∃ xs' xs, d' = .agg xs' ∧ d = .agg xs ∧ All2 (rC P L sel m) xs' xs
def rD (P : Program) (L : List TO) (sel : Sel) (m : Nat) (d' d : TV) : Prop := r1 P L sel m d' d ∨ ∃ xs' xs, d' = .tup xs' ∧ d = .tup xs ∧ All2 (r1 P L sel m) xs' xs
theorem decA_sound : ∀ (m : Nat) (s : VS) {l r : List TV} {B B' : Bd} {p : s.T}, decA P L m s l B = some (p, r, B') → B.le B' ∧ (WellB L sel len B' → ∃ l0, l = l0 ++ r ∧ All2 (r1 P L sel m) (s.ins id len p) l0) := by
  intro m s
  have base : ∀ (s : VS) {l r : List TV} {B B' : Bd} {p : s.T}, decC P L m s l B = some (p, r, B') → B.le B' ∧ (WellB L sel len B' → ∃ l0, l = l0 ++ r ∧ All2 (r1 P L sel m) (s.ins id len p) l0) := by
    intro s l r B B' p h
    obtain ⟨h1, h2⟩ := decC_sound (sel := sel) (len := len) m s h
    refine ⟨h1, fun g => ?_⟩
    obtain ⟨l0, e, q⟩ := h2 g
    exact ⟨l0, e, q.mono fun _ _ => .inl⟩
  induction s with
  | agg s _ =>
    intro l r B B' p h
    simp only [decA] at h
    split at h
    · rename_i xs r'
      split at h
      · rename_i x B1 h1
        cases h
        obtain ⟨a1, a2⟩ := decC_sound (sel := sel) (len := len) m s h1
        refine ⟨a1, fun g => ?_⟩
        obtain ⟨l0, e, q⟩ := a2 g
        rw [List.append_nil] at e
        subst e
        exact ⟨[_], rfl, .cons (.inr ⟨_, _, rfl, rfl, q⟩) .nil⟩
      · cases h
    · cases h
  | cons a b iha ihb =>
    intro l r B B' p h
    simp only [decA] at h
    split at h
    · rename_i x l' B1 h1
      split at h
      · rename_i y l'' B2 h2
        cases h
        obtain ⟨a1, a2⟩ := iha h1
        obtain ⟨b1, b2⟩ := ihb h2
        refine ⟨Bd.le_trans a1 b1, fun g => ?_⟩
        obtain ⟨m1, rfl, q1⟩ := a2 (g.le b1)
        obtain ⟨m2, rfl, q2⟩ := b2 g
        refine ⟨m1 ++ m2, by simp, ?_⟩
        show All2 _ (a.ins id len (SP.fst a.dfl (SP.mk x y)) ++ b.ins id len (SP.snd b.dfl (SP.mk x y))) _
        rw [SP.fst_mk fun q => VS.triv_dfl a q x, SP.snd_mk fun q => VS.triv_dfl b q y]
        exact q1.append q2
      · cases h
    · cases h
  | _ => intro l r B B' p h; exact base _ h
theorem decT_sound : ∀ (m : Nat) (s : VS) {l r : List TV} {B B' : Bd} {p : s.T}, decT P L m s l B = some (p, r, B') → B.le B' ∧ (WellB L sel len B' → ∃ l0, l = l0 ++ r ∧ All2 (rD P L sel m) (s.ins id len p) l0) := by
  intro m s
  have base : ∀ (s : VS) {l r : List TV} {B B' : Bd} {p : s.T}, decA P L m s l B = some (p, r, B') → B.le B' ∧ (WellB L sel len B' → ∃ l0, l = l0 ++ r ∧ All2 (rD P L sel m) (s.ins id len p) l0) := by
    intro s l r B B' p h
    obtain ⟨h1, h2⟩ := decA_sound (sel := sel) (len := len) m s h
    refine ⟨h1, fun g => ?_⟩
    obtain ⟨l0, e, q⟩ := h2 g
    exact ⟨l0, e, q.mono fun _ _ => .inl⟩
  induction s with
  | tup s _ =>
    intro l r B B' p h
    simp only [decT] at h
    split at h
    · rename_i xs r'
      split at h
      · rename_i x B1 h1
        cases h
        obtain ⟨a1, a2⟩ := decA_sound (sel := sel) (len := len) m s h1
        refine ⟨a1, fun g => ?_⟩
        obtain ⟨l0, e, q⟩ := a2 g
        rw [List.append_nil] at e
        subst e
        exact ⟨[_], rfl, .cons (.inr ⟨_, _, rfl, rfl, q⟩) .nil⟩
      · cases h
    · cases h
  | cons a b iha ihb =>
    intro l r B B' p h
    simp only [decT] at h
    split at h
    · rename_i x l' B1 h1
      split at h
      · rename_i y l'' B2 h2
        cases h
        obtain ⟨a1, a2⟩ := iha h1
        obtain ⟨b1, b2⟩ := ihb h2
        refine ⟨Bd.le_trans a1 b1, fun g => ?_⟩
        obtain ⟨m1, rfl, q1⟩ := a2 (g.le b1)
        obtain ⟨m2, rfl, q2⟩ := b2 g
        refine ⟨m1 ++ m2, by simp, ?_⟩
        show All2 _ (a.ins id len (SP.fst a.dfl (SP.mk x y)) ++ b.ins id len (SP.snd b.dfl (SP.mk x y))) _
        rw [SP.fst_mk fun q => VS.triv_dfl a q x, SP.snd_mk fun q => VS.triv_dfl b q y]
        exact q1.append q2
      · cases h
    · cases h
  | _ => intro l r B B' p h; exact base _ h
/-- What holds of one object that is found. -/
def oOk (L : List TO) (sel : Sel) (m : Nat) (s : Option Nat) (o' : TO) : Prop := match s with
  | some id => ∃ o, L[id]? = some o ∧ match m with
    | 0 => unOx sel (encO o') (encO o)
    | _ => unO sel (encO o') (encO o)
  | none => m ≠ 0 ∧ encO o' = .li none []
theorem rC_un {m : Nat} (hm : m = 0 ∨ m = 1) : ∀ {l' l : List TV}, All2 (rC P L sel m) l' l → match m with
    | 0 => unCxs sel (l'.map encK) = some (l.map encK)
    | _ => All2 (unX sel) (l'.map encK) (l.map encK)
  | [], _, .nil => by rcases hm with rfl | rfl; exact rfl; exact .nil
  | d' :: l', d :: l, .cons h t => by
    have ht := rC_un hm t
    rcases hm with rfl | rfl
    · simp only at ht ⊢
      simp only [List.map_cons, unCxs, ht, show unCx sel (encK d') = some (encK d) from h.2.2]
    · exact .cons h.2.2 ht
theorem decO_sound {m : Nat} (hm : m = 0 ∨ m = 1) : ∀ (os : List OS) {k : Nat} {B B' : Bd} {y : OS.Ts os}, decO P L m os k B = some (y, B') → B.le B' ∧
    (∀ (i : Nat), i < os.length → ∃ x, B'.b[k + i]? = some (some x) ∧ (∀ id n, x = some id → tlen L id = some n → OS.lens os y i = n) ∧ (x = none → OS.lens os y i = 0)) ∧
    (∀ (f : Nat → Nat), WellB L sel f B' → ∀ (i : Nat) (o' : TO), (OS.inss id f os y)[i]? = some o' → ∃ s, sel[k + i]? = some s ∧ oOk L sel m s o')
  | [], k, B, B', y, h => by
    simp only [decO] at h
    cases h
    exact ⟨Bd.le_refl _, fun i hi => (by simp at hi), fun f g i o' e => (by simp [OS.inss] at e)⟩
  | o :: r, k, B, B', y, h => by
    simp only [decO] at h
    split at h
    · rename_i x B1 h1
      split at h
      · rename_i y' B2 h2
        cases h
        obtain ⟨b1, b2, b3⟩ := decO_sound hm r h2
        have hfst : SP.fst o.dfl (SP.mk (ta := o.triv) (tb := OS.trivs r) x y') = x := SP.fst_mk fun q => OS.triv_dfl o q x
        have hsnd : SP.snd (OS.dfls r) (SP.mk (ta := o.triv) (tb := OS.trivs r) x y') = y' := SP.snd_mk fun q => OS.trivs_dfl r q y'
        -- the first one
        have key : B.le B1 ∧ (∃ s, B1.b[k]? = some (some s) ∧ (∀ id n, s = some id → tlen L id = some n → olen o x = n) ∧ (s = none → olen o x = 0)) ∧ (∀ (f : Nat → Nat), WellB L sel f B1 → ∃ s, sel[k]? = some s ∧ oOk L sel m s (o.ins id f x)) := by
          cases o with
          | st s =>
            simp only [decO1] at h1
            split at h1
            · rename_i id0 hb
              split at h1
              · rename_i cells hL
                split at h1
                · rename_i x0 B0 hd
                  cases h1
                  obtain ⟨a1, a2⟩ := decC_sound (sel := sel) m s (len := fun _ => 0) hd
                  refine ⟨a1, ⟨some id0, a1.1 _ _ hb, fun id n e ht => ?_, fun e => by cases e⟩, fun f g => ?_⟩
                  · cases e
                    unfold tlen at ht
                    rw [hL] at ht
                    cases ht
                  · obtain ⟨a3, a4⟩ := decC_sound (sel := sel) m s (len := f) hd
                    obtain ⟨l0, e, q⟩ := a4 g
                    rw [List.append_nil] at e
                    subst e
                    refine ⟨some id0, g.at' _ _ (a1.1 _ _ hb), _, hL, ?_⟩
                    have hu := rC_un hm q
                    rcases hm with rfl | rfl
                    · exact hu
                    · show unO sel (.st _) (.st _)
                      rw [unO_st]; exact hu
                · cases h1
              · cases h1
            · cases h1
          | li c e loc =>
            simp only [decO1] at h1
            split at h1
            · rename_i id0 hb
              split at h1
              · rename_i c' e' loc' xs hL
                split at h1
                · rename_i hc
                  split at h1
                  · rename_i hcc
                    cases h1
                    obtain ⟨rfl, rfl⟩ := hc
                    have := CT.of_eqb hcc
                    subst this
                    refine ⟨Bd.le_refl _, ⟨some id0, hb, fun id n e ht => ?_, fun e => by cases e⟩, fun f g => ⟨some id0, g.at' _ _ hb, _, hL, ?_⟩⟩
                    · cases e
                      unfold tlen at ht
                      rw [hL] at ht
                      cases ht
                      rfl
                    · rcases hm with rfl | rfl
                      · exact ⟨rfl, rfl⟩
                      · show unO sel (.li _ _) (.li _ _)
                        rw [unO_li]; exact ⟨rfl, .inl rfl⟩
                  · cases h1
                · cases h1
              · cases h1
            · rename_i hb
              split at h1
              · rename_i hc
                cases h1
                obtain ⟨rfl, hm0⟩ := hc
                exact ⟨Bd.le_refl _, ⟨none, hb, fun id n e => (by cases e), fun _ => rfl⟩, fun f g => ⟨none, g.at' _ _ hb, hm0, rfl⟩⟩
              · cases h1
            · cases h1
          | dead =>
            simp only [decO1] at h1
            cases h1
        obtain ⟨k1, ⟨s, k2, k3, k4⟩, k5⟩ := key
        refine ⟨Bd.le_trans k1 b1, fun i hi => ?_, fun f g i o' e => ?_⟩
        · cases i with
          | zero =>
            refine ⟨s, b1.1 _ _ k2, ?_, ?_⟩
            · intro id n e ht
              show olen o (SP.fst o.dfl (SP.mk x y')) = n
              rw [hfst]; exact k3 id n e ht
            · intro e
              show olen o (SP.fst o.dfl (SP.mk x y')) = 0
              rw [hfst]; exact k4 e
          | succ i =>
            obtain ⟨s', c1, c2, c3⟩ := b2 i (by simpa using hi)
            refine ⟨s', by rw [show k + (i + 1) = k + 1 + i by omega]; exact c1, fun id n e ht => ?_, fun e => ?_⟩
            · show OS.lens r (SP.snd (OS.dfls r) (SP.mk x y')) i = n
              rw [hsnd]; exact c2 id n e ht
            · show OS.lens r (SP.snd (OS.dfls r) (SP.mk x y')) i = 0
              rw [hsnd]; exact c3 e
        · have e' : (o.ins id f (SP.fst o.dfl (SP.mk x y')) :: OS.inss id f r (SP.snd (OS.dfls r) (SP.mk x y')))[i]? = some o' := e
          rw [hfst, hsnd] at e'
          cases i with
          | zero =>
            rw [List.getElem?_cons_zero] at e'
            cases e'
            exact k5 f (g.le b1)
          | succ i =>
            rw [List.getElem?_cons_succ] at e'
            obtain ⟨s', c1, c2⟩ := b3 f g i o' e'
            exact ⟨s', by rw [show k + (i + 1) = k + 1 + i by omega]; exact c1, c2⟩
      · cases h
    · cases h
theorem selOf_get : ∀ {b : List (Option (Option Nat))} {sel : Sel}, selOf b = some sel → sel.length = b.length ∧ ∀ (k : Nat) (x : Option Nat), b[k]? = some (some x) ↔ sel[k]? = some x
  | [], sel, h => by cases h; exact ⟨rfl, fun k x => by simp⟩
  | y :: b, sel, h => by
    unfold selOf at h
    split at h
    · rename_i z zs h1
      cases h
      obtain ⟨a1, a2⟩ := selOf_get h1
      refine ⟨by simp [a1], fun k x => ?_⟩
      cases k with
      | zero => simp
      | succ k => simpa using a2 k x
    · cases h
theorem nodupB_sound : ∀ {l : List Nat}, nodupB l = true → l.Nodup
  | [], _ => List.nodup_nil
  | x :: r, h => by
    simp only [nodupB, Bool.and_eq_true, Bool.not_eq_true'] at h
    exact List.nodup_cons.2 ⟨by simpa using h.1, nodupB_sound h.2⟩
theorem bdOk_some {c : Nat} {B : Bd} {sel : Sel} (h : bdOk c B = some sel) : selOf B.b = some sel ∧ (sel.filterMap id).Nodup ∧ (∀ i ∈ B.used, some i ∉ sel) ∧ fixes c sel = true := by
  unfold bdOk at h
  split at h
  · rename_i s hs
    split at h
    · rename_i hc
      cases h
      simp only [Bool.and_eq_true, List.all_eq_true, Bool.not_eq_true'] at hc
      exact ⟨hs, nodupB_sound hc.1.1, fun i hi => by simpa using hc.1.2 i hi, hc.2⟩
    · cases h
  · cases h
theorem bd0_len (c n : Nat) : (bd0 c n).b.length = n := by simp [bd0]
theorem inss_len (f g : Nat → Nat) : ∀ (os : List OS) (y : OS.Ts os), (OS.inss f g os y).length = os.length
  | [], _ => rfl
  | o :: r, y => by simp only [OS.inss, List.length_cons, inss_len f g r]
/-- All is well that was found: the numbers, the objects, the values. -/
theorem found {c m m' : Nat} (hm : m = 0 ∨ m = 1) {vs : VS} {os : List OS} {vals : List TV} {p : vs.T} {y : OS.Ts os} {B B' : Bd} (h1 : decT P L m' vs vals (bd0 c os.length) = some (p, [], B)) (h2 : decO P L m os 0 B = some (y, B')) (h3 : bdOk c B' = some sel) (h4 : ∀ q ∈ B'.eqs, q.1 = q.2) :
    All2 (rD P L sel m') (vs.ins id (OS.lens os y) p) vals ∧ All2 (oOk L sel m) sel (OS.inss id (OS.lens os y) os y) ∧ (sel.filterMap id).Nodup ∧ fixes c sel = true := by
  obtain ⟨s1, s2, s3, s4⟩ := bdOk_some h3
  obtain ⟨s5, s6⟩ := selOf_get s1
  obtain ⟨a1, a2⟩ := decT_sound (sel := sel) (len := OS.lens os y) m' vs h1
  obtain ⟨b1, b2, b3⟩ := decO_sound (sel := sel) hm os h2
  have hlen : B'.b.length = os.length := by rw [b1.2.2.2, a1.2.2.2, bd0_len]
  have ok : WellB L sel (OS.lens os y) B' := by
    refine ⟨fun k x e => (s6 k x).1 e, h4, s3, fun k id n e ht => ?_, fun k e => ?_⟩
    · have hk : k < os.length := by rw [← hlen, ← s5]; exact (List.getElem?_eq_some_iff.1 e).1
      obtain ⟨x, c1, c2, c3⟩ := b2 k hk
      rw [Nat.zero_add] at c1
      have := (s6 k x).1 c1
      rw [e] at this; cases this
      exact c2 id n rfl ht
    · have hk : k < os.length := by rw [← hlen, ← s5]; exact (List.getElem?_eq_some_iff.1 e).1
      obtain ⟨x, c1, c2, c3⟩ := b2 k hk
      rw [Nat.zero_add] at c1
      have := (s6 k x).1 c1
      rw [e] at this; cases this
      exact c3 rfl
  refine ⟨?_, ?_, s2, s4⟩
  · obtain ⟨l0, e, q⟩ := a2 (ok.le b1)
    rw [List.append_nil] at e
    subst e
    exact q
  · refine All2.of_get (by rw [inss_len, s5, hlen]) fun i s o' e1 e2 => ?_
    obtain ⟨s', c1, c2⟩ := b3 _ ok i o' e2
    rw [Nat.zero_add, e1] at c1
    cases c1
    exact c2
theorem rCs_wk : ∀ {l' l : List TV}, All2 (rC P L sel 2) l' l → All2 (wkC P (eL L) sel) (l'.map encK) (l.map encK)
  | _, _, .nil => .nil
  | _, _, .cons h t => .cons h.2.2 (rCs_wk t)
theorem isC_no {xs : List TV} : isC (.agg xs) ≠ true ∧ isC (.tup xs) ≠ true := ⟨fun h => (by cases h), fun h => (by cases h)⟩
theorem isC_1 {d : TV} (h : isC d = true) : is1T d = true := by
  cases d <;> first | rfl | exact absurd h isC_no.1 | exact absurd h isC_no.2
theorem enc1_cell {d : TV} (h : isC d = true) : enc1 d = encK d := by
  cases d <;> first | rfl | exact absurd h isC_no.1 | exact absurd h isC_no.2
theorem wk1_cell {d' d : DV} (hn : ∀ xs, d' ≠ .agg xs) (h : wkC P (eL L) sel d' d) : wk1 P (eL L) sel d' d := by
  unfold wk1
  split
  · exact absurd rfl (hn _)
  · exact h
theorem encK_agg {d : TV} (h : isC d = true) : (∀ xs, encK d ≠ .agg xs) ∧ (∀ xs, encK d ≠ .tup xs) := by
  cases d <;> first | exact absurd h isC_no.1 | exact absurd h isC_no.2 | exact ⟨fun _ q => (by cases q), fun _ q => (by cases q)⟩
theorem r1_wk {d' d : TV} (h : r1 P L sel 2 d' d) : wk1 P (eL L) sel (enc1 d') (enc1 d) := by
  rcases h with h | ⟨xs', xs, rfl, rfl, h⟩
  · rw [enc1_cell h.1, enc1_cell h.2.1]
    exact wk1_cell (encK_agg h.1).1 h.2.2
  · exact rCs_wk h
theorem r1s_wk : ∀ {l' l : List TV}, All2 (r1 P L sel 2) l' l → All2 (wk1 P (eL L) sel) (l'.map enc1) (l.map enc1)
  | _, _, .nil => .nil
  | _, _, .cons h t => .cons (r1_wk h) (r1s_wk t)
theorem rD_wk {d' d : TV} (h : rD P L sel 2 d' d) : wkD P (eL L) sel (enc d') (enc d) := by
  rcases h with h | ⟨xs', xs, rfl, rfl, h⟩
  · have hk := r1_wk h
    have h1 : is1T d' = true ∧ is1T d = true := by
      rcases h with h | ⟨xs', xs, rfl, rfl, _⟩
      · exact ⟨isC_1 h.1, isC_1 h.2.1⟩
      · exact ⟨rfl, rfl⟩
    rw [enc1_of h1.1, enc1_of h1.2]
    unfold wkD
    split
    · rename_i q1 q2 q3
      cases d' <;> first | (cases q2; done) | cases h1.1 | (rename_i q4; cases q4)
    · exact hk
  · exact r1s_wk h
end
end Go.Sim

set_option linter.unusedVariables false
namespace Go.Sim
open Go.RowKit
def getAllT (a : TFrm) : List Nat → Option (List TV)
  | [] => some []
  | k :: r => match tlook k a.l, getAllT a r with
    | some d, some ds => some (d :: ds)
    | _, _ => none
/-- What a shape tells. -/
def ShT (vs : VS) (os : List OS) : Type := SP vs.triv (OS.trivs os) vs.T (OS.Ts os)
def ShT.v {vs : VS} {os : List OS} (s : ShT vs os) : vs.T := SP.fst vs.dfl s
def ShT.o {vs : VS} {os : List OS} (s : ShT vs os) : OS.Ts os := SP.snd (OS.dfls os) s
def ShT.mk {vs : VS} {os : List OS} (x : vs.T) (y : OS.Ts os) : ShT vs os := SP.mk x y
theorem ShT.v_mk {vs : VS} {os : List OS} (x : vs.T) (y : OS.Ts os) : (ShT.mk x y : ShT vs os).v = x := SP.fst_mk fun q => VS.triv_dfl vs q x
theorem ShT.o_mk {vs : VS} {os : List OS} (x : vs.T) (y : OS.Ts os) : (ShT.mk x y : ShT vs os).o = y := SP.snd_mk fun q => OS.trivs_dfl os q y
/-- Values and objects of a shape. -/
def ShT.vals {vs : VS} {os : List OS} (s : ShT vs os) : List TV := vs.ins id (OS.lens os s.o) s.v
def ShT.objs {vs : VS} {os : List OS} (s : ShT vs os) : List TO := OS.inss id (OS.lens os s.o) os s.o
def decSh (P : Program) (c m m' : Nat) (vs : VS) (os : List OS) (vals : List TV) (L : List TO) : Option (ShT vs os × List (Nat × Nat)) :=
  match decT P L m' vs vals (bd0 c os.length) with
  | some (x, [], B) => match decO P L m os 0 B with
    | some (y, B') => match bdOk c B' with
      | some _ => some (ShT.mk x y, B'.eqs)
      | none => none
    | none => none
  | _ => none
def shpOf (P : Program) (c : Nat) (keys : List Nat) (vs : VS) (os : List OS) : Shp where
  σ := ShT vs os
  F s := keys.zip s.vals
  G s := s.objs
  dec a L := if a.c = c then (match getAllT a keys with
    | some vals => decSh P c 1 2 vs os vals L
    | none => none) else none
theorem found_sh {P : Program} {c m m' : Nat} (hm : m = 0 ∨ m = 1) {vs : VS} {os : List OS} {vals : List TV} {L : List TO} {s : ShT vs os} {q : List (Nat × Nat)} (h : decSh P c m m' vs os vals L = some (s, q)) (hq : ∀ p ∈ q, p.1 = p.2) :
    ∃ sel, All2 (rD P L sel m') s.vals vals ∧ All2 (oOk L sel m) sel s.objs ∧ (sel.filterMap id).Nodup ∧ fixes c sel = true := by
  unfold decSh at h
  split at h
  · rename_i x B h1
    split at h
    · rename_i y B' h2
      split at h
      · rename_i sel h3
        cases h
        obtain ⟨a, b, c', d⟩ := found hm h1 h2 h3 hq
        refine ⟨sel, ?_, ?_, c', d⟩
        · unfold ShT.vals; rw [ShT.v_mk, ShT.o_mk]; exact a
        · unfold ShT.objs; rw [ShT.o_mk]; exact b
      · cases h
    · cases h
  · cases h
theorem oOk_sel {L : List TO} {sel : Sel} : ∀ {sl : List (Option Nat)} {os : List TO}, All2 (oOk L sel 1) sl os → All2 (selR (eL L) sel) sl (eL os)
  | _, _, .nil => .nil
  | _, _, .cons (a := s) h t => by
    refine .cons ?_ (oOk_sel t)
    cases s with
    | none => exact h.2
    | some id =>
      obtain ⟨o, h1, h2⟩ := h
      unfold selR
      simp only [eL_get h1]
      exact h2
theorem wkL_of {P : Program} {L : List TO} {sel : Sel} {a : TFrm} : ∀ {keys : List Nat} {vals l' : List TV}, getAllT a keys = some vals → All2 (rD P L sel 2) l' vals → wkL P (eL L) sel (encF a).l (encS (keys.zip l'))
  | [], _, _, h, ha => by simp [encS, wkL]
  | k :: r, vals, l', h, ha => by
    unfold getAllT at h
    split at h
    · rename_i d ds h1 h2
      cases h
      cases ha with
      | cons hd t =>
        rename_i d' l'
        have hk : dlook k (encF a).l = some (enc d) := by
          show dlook k (a.l.map fun p => (p.1, enc p.2)) = _
          rw [dlook_enc, h1]; rfl
        refine ⟨?_, wkL_of h2 t⟩
        simp only [hk]
        exact rD_wk hd
    · cases h
theorem shpOf_ok (P : Program) (c : Nat) (keys : List Nat) (vs : VS) (os : List OS) : ShpOk P (shpOf P c keys vs os) := by
  intro a L s q h hq
  have h' : (if a.c = c then (match getAllT a keys with
    | some vals => decSh P c 1 2 vs os vals L
    | none => none) else none) = some (s, q) := h
  split at h'
  · rename_i hc
    split at h'
    · rename_i vals hv
      obtain ⟨sel, h1, h2, h3, h4⟩ := found_sh (.inr rfl) h' hq
      exact wkS_intro (n := a.n) (c := a.c) (l := (encF a).l) sel (oOk_sel h2) h3 (by rw [hc]; exact h4) (wkL_of hv h1)
    · cases h'
  · cases h'
def shpJ (P : Program) (c : Nat) (keys : List Nat) (vs : VS) (os : List OS) : Shp where
  σ := ShT vs os
  F s := keys.zip s.vals
  G s := s.objs
  dec a L := if a.c = c then (match getAllT a keys with
    | some vals => decSh P c 1 1 vs os vals L
    | none => none) else none
section
variable {P : Program} {L : List TO} {sel : Sel} {γ : Pl} {h : Heap} {h0 : Heap} {W0 : Ent} {L' : List TO}
theorem rC_sel (H : Hp P h0 W0 γ (eL L) h) (ok : SelOk (eL L) sel (eL L')) {d' d : TV} {v : Value} (e : rC P L sel 1 d' d) (hd : DC P (Free W0 γ (eL L) h) γ (eL L) h (encK d) v) : DC P (Free W0 (selPl γ sel) (eL L') h) (selPl γ sel) (eL L') h (encK d') v := sel_dx H ok e.2.2 hd
theorem rCs_sel (H : Hp P h0 W0 γ (eL L) h) (ok : SelOk (eL L) sel (eL L')) : ∀ {l' l : List TV} {vs : List Value}, All2 (rC P L sel 1) l' l → All2 (DC P (Free W0 γ (eL L) h) γ (eL L) h) (l.map encK) vs → All2 (DC P (Free W0 (selPl γ sel) (eL L') h) (selPl γ sel) (eL L') h) (l'.map encK) vs
  | _, _, _, .nil, .nil => .nil
  | _, _, _, .cons e t, .cons hd t' => .cons (rC_sel H ok e hd) (rCs_sel H ok t t')
theorem dc_d1 {S : Nat → Prop} {M : List Obj} {x : TV} {v : Value} (hc : isC x = true) : D1 P S γ M h (enc1 x) v ↔ DC P S γ M h (encK x) v := by
  rw [enc1_cell hc]
  cases x <;> first | exact Iff.rfl | exact absurd hc isC_no.1 | exact absurd hc isC_no.2
theorem r1_sel (H : Hp P h0 W0 γ (eL L) h) (ok : SelOk (eL L) sel (eL L')) {d' d : TV} {v : Value} (e : r1 P L sel 1 d' d) (hd : D1 P (Free W0 γ (eL L) h) γ (eL L) h (enc1 d) v) : D1 P (Free W0 (selPl γ sel) (eL L') h) (selPl γ sel) (eL L') h (enc1 d') v := by
  rcases e with e | ⟨xs', xs, rfl, rfl, e⟩
  · exact (dc_d1 e.1).2 (rC_sel H ok e ((dc_d1 e.2.1).1 hd))
  · obtain ⟨vs, rfl, hv⟩ := hd
    exact ⟨vs, rfl, rCs_sel H ok e hv⟩
theorem r1s_sel (H : Hp P h0 W0 γ (eL L) h) (ok : SelOk (eL L) sel (eL L')) : ∀ {l' l : List TV} {vs : List Value}, All2 (r1 P L sel 1) l' l → All2 (D1 P (Free W0 γ (eL L) h) γ (eL L) h) (l.map enc1) vs → All2 (D1 P (Free W0 (selPl γ sel) (eL L') h) (selPl γ sel) (eL L') h) (l'.map enc1) vs
  | _, _, _, .nil, .nil => .nil
  | _, _, _, .cons e t, .cons hd t' => .cons (r1_sel H ok e hd) (r1s_sel H ok t t')
theorem d1_dr {S : Nat → Prop} {M : List Obj} {x : TV} {v : Value} (hc : is1T x = true) : DR P S γ M h (enc x) v ↔ D1 P S γ M h (enc1 x) v := by
  rw [enc1_of hc]
  have h1 := is1_enc x
  rw [hc, enc1_of hc] at h1
  exact ⟨fun q => d1_of_dr q h1, fun q => dr_of_d1 q⟩
theorem r1_is {m : Nat} {d' d : TV} (e : r1 P L sel m d' d) : is1T d' = true ∧ is1T d = true := by
  rcases e with e | ⟨xs', xs, rfl, rfl, _⟩
  · exact ⟨isC_1 e.1, isC_1 e.2.1⟩
  · exact ⟨rfl, rfl⟩
theorem rD_sel (H : Hp P h0 W0 γ (eL L) h) (ok : SelOk (eL L) sel (eL L')) {d' d : TV} {v : Value} (e : rD P L sel 1 d' d) (hd : DR P (Free W0 γ (eL L) h) γ (eL L) h (enc d) v) : DR P (Free W0 (selPl γ sel) (eL L') h) (selPl γ sel) (eL L') h (enc d') v := by
  rcases e with e | ⟨xs', xs, rfl, rfl, e⟩
  · obtain ⟨i1, i2⟩ := r1_is e
    exact (d1_dr i1).2 (r1_sel H ok e ((d1_dr i2).1 hd))
  · obtain ⟨vs, rfl, hv⟩ := hd
    exact ⟨vs, rfl, r1s_sel H ok e hv⟩
theorem keys_sel (H : Hp P h0 W0 γ (eL L) h) (ok : SelOk (eL L) sel (eL L')) {a : TFrm} {fa : Frm} (hf : FR P W0 γ (eL L) h (encF a) fa) : ∀ {keys : List Nat} {vals l' : List TV}, getAllT a keys = some vals → All2 (rD P L sel 1) l' vals →
    ∀ t d, dlook t (encS (keys.zip l')) = some d → ∃ v, fa.get t = some v ∧ DR P (Free W0 (selPl γ sel) (eL L') h) (selPl γ sel) (eL L') h d v
  | [], _, _, _, _, t, d, e => by simp [encS, dlook] at e
  | k :: r, vals, l', hg, ha, t, d, e => by
    unfold getAllT at hg
    split at hg
    · rename_i d0 ds h1 h2
      cases hg
      cases ha with
      | cons hd tl =>
        rename_i d' l'
        have e' : (if k = t then some (enc d') else dlook t (encS (r.zip l'))) = some d := e
        split at e'
        · rename_i hk
          cases e'
          subst hk
          obtain ⟨v, e1, r1⟩ := hf.slots k (enc d0) (by show dlook k (a.l.map fun p => (p.1, enc p.2)) = _; rw [dlook_enc, h1]; rfl)
          exact ⟨v, e1, rD_sel H ok hd r1⟩
        · exact keys_sel H ok hf h2 tl t d e'
    · cases hg
end
theorem shpJ_ok (P : Program) (c : Nat) (keys : List Nat) (vs : VS) (os : List OS) : ShpJ P (shpJ P c keys vs os) := by
  intro a L s q h hq h0 W0 γ hh fa H hf
  have h' : (if a.c = c then (match getAllT a keys with
    | some vals => decSh P c 1 1 vs os vals L
    | none => none) else none) = some (s, q) := h
  split at h'
  · rename_i hc
    split at h'
    · rename_i vals hv
      obtain ⟨sel, h1, h2, h3, h4⟩ := found_sh (.inr rfl) h' hq
      have ok : SelOk (eL L) sel (eL s.objs) := SelOk.of (oOk_sel h2) h3
      refine ⟨selPl γ sel, H.select ok fun id b e => ?_, hf.n, hf.cnt, keys_sel H ok hf hv h1⟩
      have hid : id < c := by have := W0.few id b e; rw [hf.cnt] at this; rw [← hc]; exact this
      have := List.all_eq_true.1 h4 id (List.mem_range.2 hid)
      simpa using this
    · cases h'
  · cases h'
abbrev RSh := VS × List OS
def RSh.T (r : RSh) : Type := ShT r.1 r.2
def RT : List RSh → Type
  | [] => Empty
  | r :: rs => match rs with
    | [] => r.T
    | _ :: _ => r.T ⊕ RT rs
def RQ1 (r : RSh) (x : r.T) (d : DV) (A : List Obj) : Prop := ∃ v, ShT.vals x = [v] ∧ d = enc v ∧ A = eL (ShT.objs x)
def RQ : (rs : List RSh) → RT rs → DV → List Obj → Prop
  | [], _ => fun _ _ => False
  | [r], x => RQ1 r x
  | r :: s :: t, x => match x with
    | .inl y => RQ1 r y
    | .inr y => RQ (s :: t) y
def decR (P : Program) (c : Nat) (d : TV) (L : List TO) : (rs : List RSh) → Option (RT rs × List (Nat × Nat))
  | [] => none
  | [r] => decSh P c 1 2 r.1 r.2 [d] L
  | r :: s :: t => match decSh P c 1 2 r.1 r.2 [d] L with
    | some (x, q) => some (.inl x, q)
    | none => match decR P c d L (s :: t) with
      | some (y, q) => some (.inr y, q)
      | none => none
theorem ret_one {P : Program} {c : Nat} {d : TV} {L : List TO} {r : RSh} {x : ShT r.1 r.2} {q : List (Nat × Nat)} (h : decSh P c 1 2 r.1 r.2 [d] L = some (x, q)) (hq : ∀ p ∈ q, p.1 = p.2) : retQ P c (RQ1 r x) (enc d) (eL L) := by
  obtain ⟨sel, h1, h2, h3, h4⟩ := found_sh (.inr rfl) h hq
  generalize hv : ShT.vals x = vals at h1
  cases h1 with
  | cons hd t =>
    cases t
    rename_i v
    exact ret_sel sel (enc v) (eL (ShT.objs x)) (oOk_sel h2) h3 h4 (rD_wk hd) ⟨v, hv, rfl, rfl⟩
theorem decR_sound {P : Program} {c : Nat} {d : TV} {L : List TO} : ∀ {rs : List RSh} {x : RT rs} {q : List (Nat × Nat)}, decR P c d L rs = some (x, q) → (∀ p ∈ q, p.1 = p.2) → retQ P c (RQ rs x) (enc d) (eL L)
  | [], x, q, h, hq => by cases h
  | [r], x, q, h, hq => ret_one h hq
  | r :: s :: t, x, q, h, hq => by
    unfold decR at h
    split at h
    · rename_i y q' h1
      cases h
      exact ret_one h1 hq
    · split at h
      · rename_i y q' h1
        cases h
        exact decR_sound (rs := s :: t) h1 hq
      · cases h
def kret (P : Program) (c : Nat) (rs : List RSh) : TV → List TO → Tree (RT rs) := fun d L => obind (decR P c d L rs) fun p => chk p.2 (.ret p.1)
/-- A function that is reckoned. -/
structure TEnt where
  f : FuncId
  av : VS
  os : List OS
  rs : List RSh
  m : ShT av os → Option (RT rs)
def EntT (P : Program) (e : TEnt) : Prop := ∀ p x, e.m p = some x → DCalls P e.f (p.vals.map enc) (eL p.objs) (RQ e.rs x)
noncomputable def tmodel (E : TEnv) (f : FuncId) (av : VS) (os : List OS) (rs : List RSh) (p : ShT av os) : Option (RT rs) := (tfun E f p.vals p.objs (kret E.P os.length rs)).run
theorem vals_len (f len f' len' : Nat → Nat) : ∀ (s : VS) (x y : s.T), (s.ins f len x).length = (s.ins f' len' y).length
  | .int _, _, _ => rfl
  | .bool, _, _ => rfl
  | .str, _, _ => rfl
  | .sl _, _, _ => rfl
  | .cst _, _, _ => rfl
  | .ptr _ _, _, _ => rfl
  | .own _, _, _ => rfl
  | .nil, _, _ => rfl
  | .cons a b, x, y => by simp only [VS.ins, List.length_append, vals_len f len f' len' a _ (SP.fst a.dfl y), vals_len f len f' len' b _ (SP.snd b.dfl y)]
  | .fn _ _ _, _, _ => rfl
  | .agg _, _, _ => rfl
  | .tup _, _, _ => rfl
theorem ent_ok {E : TEnv} (hE : EnvOk E) {f : FuncId} {av : VS} {os : List OS} {rs : List RSh} (m : ShT av os → Option (RT rs)) (hm : ∀ p, tmodel E f av os rs p = m p) (hf : fnOk E.P f (av.ins id (fun _ => 0) av.dfl).length = true) : EntT E.P ⟨f, av, os, rs, m⟩ := by
  intro p x hx
  have hx' : tmodel E f av os rs p = some x := (hm p).trans hx
  have hl : p.objs.length = os.length := inss_len _ _ _ _
  unfold tmodel at hx'
  refine tfun_calls hE (K := kret E.P os.length rs) (z := x) (by rw [show p.vals.length = (av.ins id (fun _ => 0) av.dfl).length from vals_len _ _ _ _ _ _ _]; exact hf) hx' fun d L h => ?_
  obtain ⟨⟨y, q⟩, h1, h2⟩ := obind_some h
  obtain ⟨h3, h4⟩ := chk_some h2
  cases h4
  rw [hl]
  exact decR_sound h1 h3
end Go.Sim

set_option linter.unusedVariables false
namespace Go.Sim
open Go.RowKit
def scalCT : TV → Bool
  | .v _ => true
  | _ => false
def scal1T : TV → Bool
  | .agg xs => xs.all scalCT
  | d => scalCT d
def scalDT : TV → Bool
  | .tup xs => xs.all scal1T
  | d => scal1T d
theorem scalC_enc {d : TV} (h : scalCT d = true) : scalC (encK d) = true ∧ enc1 d = encK d ∧ enc d = encK d := by cases d <;> first | exact ⟨rfl, rfl, rfl⟩ | cases h
theorem scalCs_enc : ∀ {l : List TV}, l.all scalCT = true → (l.map encK).all scalC = true
  | [], _ => rfl
  | d :: l, h => by
    simp only [List.all_cons, Bool.and_eq_true] at h
    rw [List.map_cons, List.all_cons, (scalC_enc h.1).1, scalCs_enc h.2]; rfl
theorem scal1_enc {d : TV} (h : scal1T d = true) : scal1 (enc1 d) = true ∧ enc d = enc1 d := by
  cases d <;> first | exact ⟨scalCs_enc h, rfl⟩ | exact ⟨rfl, rfl⟩ | cases h
theorem scal1s_enc : ∀ {l : List TV}, l.all scal1T = true → (l.map enc1).all scal1 = true
  | [], _ => rfl
  | d :: l, h => by
    simp only [List.all_cons, Bool.and_eq_true] at h
    rw [List.map_cons, List.all_cons, (scal1_enc h.1).1, scal1s_enc h.2]; rfl
theorem scalD_enc {d : TV} (h : scalDT d = true) : scalD (enc d) = true := by
  cases d <;> first | exact scal1s_enc h | exact scalCs_enc h | rfl | cases h
/-- By the ways of answering. -/
def caseR {R : Type} : (rs : List RSh) → RT rs → (∀ r : RSh, r.T → Tree R) → Tree R
  | [], _, _ => .fail
  | [r], x, k => k r x
  | r :: s :: t, x, k => .case r.T (RT (s :: t)) x (k r) (fun y => caseR (s :: t) y k)
theorem caseR_some {R : Type} {z : R} : ∀ {rs : List RSh} {x : RT rs} {k : ∀ r : RSh, r.T → Tree R}, (caseR rs x k).run = some z → ∃ (r : RSh) (y : r.T), (k r y).run = some z ∧ ∀ d A, RQ rs x d A → RQ1 r y d A
  | [], x, k, h => by cases h
  | [r], x, k, h => ⟨r, x, h, fun d A q => q⟩
  | r :: s :: t, x, k, h => by
    unfold caseR at h
    cases x with
    | inl y => exact ⟨r, y, h, fun d A q => q⟩
    | inr y =>
      obtain ⟨r', y', h1, h2⟩ := caseR_some (rs := s :: t) h
      exact ⟨r', y', h1, fun d A q => h2 d A q⟩
def VS.scal : VS → Bool
  | .int _ => true
  | .bool => true
  | .str => true
  | .cst _ => true
  | .nil => true
  | .cons a b => a.scal && b.scal
  | .agg l => l.scal
  | .tup l => l.scal
  | _ => false
def scalR (rs : List RSh) : Bool := rs.all fun r => r.1.scal && r.2.isEmpty
/-- One that is given no objects, and answers scalars. -/
def tcallS (P : Program) (e : TEnt) {R : Type} (ds : List TV) (L : List TO) (K : TV → List TO → Tree R) : Tree R :=
  match decA P L 2 e.av ds (bd0 0 e.os.length) with
  | some (x, [], B) => match decO P L 0 e.os 0 B with
    | some (y, B') => chk B'.eqs (sbind (e.m (ShT.mk x y)) fun r => caseR e.rs r fun r y => match ShT.vals y, r.2 with
      | [v], [] => if scalDT v then K v L else .fail
      | _, _ => .fail)
    | none => .fail
  | _ => .fail
theorem All2.maps {α β α' β' : Type} {R : α → β → Prop} {R' : α' → β' → Prop} {f : α → α'} {g : β → β'} (hr : ∀ a b, R a b → R' (f a) (g b)) : ∀ {l : List α} {m : List β}, All2 R l m → All2 R' (l.map f) (m.map g)
  | _, _, .nil => .nil
  | _, _, .cons h t => .cons (hr _ _ h) (All2.maps hr t)
section
variable {P : Program} {L : List TO}
theorem arg_of {d' d : TV} (h : r1 P L [] 2 d' d) : arg1 P (eL L) true (enc d') (enc d) := by
  have cell : ∀ {d' d : TV}, rC P L [] 2 d' d → argC P (eL L) true (encK d') (encK d) := by
    intro d' d h
    have hw : wkC P (eL L) [] (encK d') (encK d) := h.2.2
    unfold argC
    unfold wkC at hw
    split at hw
    · rename_i z rows id lo n tot h1 h2
      rw [h1, h2]
      exact ⟨.inl rfl, hw.2⟩
    · rename_i h1
      unfold unX at hw
      split at hw
      · rename_i z rows h2 h3
        rw [h2, h3]
        exact hw
      · rename_i h2
        split
        · rename_i z rows id lo n tot h3 h4; exact absurd h4 (h1 _ _ _ _ _ _ h3)
        · rename_i z rows h3 h4; exact absurd h4 (h2 _ _ h3)
        · exact hw
  rcases h with h | ⟨xs', xs, rfl, rfl, h⟩
  · rw [isC_enc h.1, isC_enc h.2.1]
    have := cell h
    unfold arg1
    split
    · rename_i h3 h4; exact absurd h3 ((encK_agg h.1).1 _)
    · exact this
  · show All2 (argC P (eL L) true) (xs'.map encK) (xs.map encK)
    exact All2.maps (fun _ _ q => cell q) h
theorem args_of : ∀ {l' l : List TV}, All2 (r1 P L [] 2) l' l → All2 (arg1 P (eL L) true) (l'.map enc) (l.map enc)
  | _, _, .nil => .nil
  | _, _, .cons h t => .cons (arg_of h) (args_of t)
theorem tcallS_sound {R : Type} {e : TEnt} (he : EntT P e) (hos : e.os = []) {ds : List TV} {K : TV → List TO → Tree R} {z : R} (h : (tcallS P e ds L K).run = some z) : DCallWF P e.f (ds.map enc) (eL L) [] (KT K z) := by
  obtain ⟨f, av, os, rs, m⟩ := e
  simp only at hos
  subst hos
  unfold tcallS at h
  split at h
  · rename_i x B h1
    split at h
    · rename_i y B' h2
      replace h := chk_some h; obtain ⟨hq, h⟩ := h
      replace h := sbind_some h; obtain ⟨r, h3, h⟩ := h
      obtain ⟨rr, yy, h4, h5⟩ := caseR_some h
      have hy : B' = B := by
        have h2' : some ((() : OS.Ts []), B) = some (y, B') := h2
        cases h2'; rfl
      subst hy
      obtain ⟨a1, a2⟩ := decA_sound (L := L) (P := P) (sel := []) (len := OS.lens [] y) 2 av h1
      have hb : B'.b = [] := List.length_eq_zero_iff.1 (by rw [a1.2.2.2]; rfl)
      obtain ⟨l0, e, q⟩ := a2 ⟨fun k x e => (by rw [hb] at e; simp at e), hq, fun i _ => (by simp), fun k id n e => (by simp at e), fun k e => (by simp at e)⟩
      rw [List.append_nil] at e
      subst e
      have hd := he (ShT.mk x y) r h3
      have hv : ShT.vals (ShT.mk x y : ShT av []) = av.ins id (OS.lens [] y) x := by unfold ShT.vals; rw [ShT.v_mk, ShT.o_mk]
      rw [hv] at hd
      refine dcall_scalF hd (args_of q) fun d A' hr => ?_
      obtain ⟨v, b1, rfl, rfl⟩ := h5 d A' hr
      split at h4
      · rename_i v' e1 e2
        rw [b1] at e1
        cases e1
        split at h4
        · rename_i hs
          refine ⟨?_, scalD_enc hs, _, _, rfl, rfl, h4⟩
          have : (ShT.objs yy).length = 0 := by unfold ShT.objs; rw [inss_len, e2]; rfl
          rw [List.length_eq_zero_iff.1 this]; rfl
        · cases h4
      · cases h4
    · cases h
  · cases h
end
end Go.Sim

set_option linter.unusedVariables false
namespace Go.Sim
open Go.RowKit
def VS.fitB (m : Nat) : VS → Bool
  | .ptr k _ => decide (k < m)
  | .own k => decide (k < m)
  | .cons a b => a.fitB m && b.fitB m
  | .fn _ _ _ => false
  | .agg _ => false
  | .tup _ => false
  | _ => true
def VS.fitC (m : Nat) : VS → Bool
  | .ptr k _ => decide (k < m)
  | .own k => decide (k < m)
  | .cons a b => a.fitC m && b.fitC m
  | .fn _ a b => a.fitB m && b.fitB m
  | .agg _ => false
  | .tup _ => false
  | _ => true
def VS.fitA (m : Nat) : VS → Bool
  | .agg s => s.fitC m
  | .cons a b => a.fitA m && b.fitA m
  | s => s.fitC m
def VS.fitT (m : Nat) : VS → Bool
  | .tup s => s.fitA m
  | .cons a b => a.fitT m && b.fitT m
  | s => s.fitA m
def exC (back : Sel) (d' d : TV) : Prop := isC d' = true ∧ isC d = true ∧ unCx back (encK d') = some (encK d)
def exB (back : Sel) (d' d : TV) : Prop := unBx back (encB d') = some (encB d)
section
variable {back : Sel} {m : Nat} {f len : Nat → Nat}
theorem insB_ex (hb : ∀ k, k < m → back[f k]? = some (some k)) : ∀ (s : VS) (x : s.T), s.fitB m = true → All2 (exB back) (s.ins f len x) (s.ins id len x)
  | .int k, x, _ => .cons rfl .nil
  | .bool, x, _ => .cons rfl .nil
  | .str, x, _ => .cons rfl .nil
  | .cst _, x, _ => .cons rfl .nil
  | .sl c, x, _ => .cons rfl .nil
  | .ptr k off, x, h => by
    have hk := hb k (by simpa [VS.fitB] using h)
    refine .cons ?_ .nil
    show unBx back (.ptr (f k) off) = some (.ptr k off)
    unfold unBx unB
    simp only [hk]
  | .own k, x, h => by
    have hk := hb k (by simpa [VS.fitB] using h)
    refine .cons ?_ .nil
    show unBx back (.ref (f k) 0 (len k) (len k)) = some (.ref k 0 (len k) (len k))
    unfold unBx
    simp only [hk]
  | .nil, x, _ => .nil
  | .cons a b, x, h => by
    simp only [VS.fitB, Bool.and_eq_true] at h
    exact (insB_ex hb a _ h.1).append (insB_ex hb b _ h.2)
  | .fn _ _ _, x, h => by cases h
  | .agg _, x, h => by cases h
  | .tup _, x, h => by cases h
theorem exB_list : ∀ {l' l : List TV}, All2 (exB back) l' l → unBxs back (l'.map encB) = some (l.map encB)
  | _, _, .nil => rfl
  | _, _, .cons h t => by simp only [List.map_cons, unBxs, show unBx back _ = some _ from h, exB_list t]
theorem insC_ex (hb : ∀ k, k < m → back[f k]? = some (some k)) : ∀ (s : VS) (x : s.T), s.fitC m = true → All2 (exC back) (s.ins f len x) (s.ins id len x)
  | .int k, x, _ => .cons ⟨rfl, rfl, rfl⟩ .nil
  | .bool, x, _ => .cons ⟨rfl, rfl, rfl⟩ .nil
  | .str, x, _ => .cons ⟨rfl, rfl, rfl⟩ .nil
  | .cst _, x, _ => .cons ⟨rfl, rfl, rfl⟩ .nil
  | .sl c, x, _ => .cons ⟨rfl, rfl, rfl⟩ .nil
  | .ptr k off, x, h => by
    have hk := hb k (by simpa [VS.fitC] using h)
    refine .cons ⟨rfl, rfl, ?_⟩ .nil
    show unBx back (.ptr (f k) off) = some (.ptr k off)
    unfold unBx unB
    simp only [hk]
  | .own k, x, h => by
    have hk := hb k (by simpa [VS.fitC] using h)
    refine .cons ⟨rfl, rfl, ?_⟩ .nil
    show unBx back (.ref (f k) 0 (len k) (len k)) = some (.ref k 0 (len k) (len k))
    unfold unBx
    simp only [hk]
  | .nil, x, _ => .nil
  | .cons a b, x, h => by
    simp only [VS.fitC, Bool.and_eq_true] at h
    exact (insC_ex hb a _ h.1).append (insC_ex hb b _ h.2)
  | .fn g a b, x, h => by
    simp only [VS.fitC, Bool.and_eq_true] at h
    refine .cons ⟨rfl, rfl, ?_⟩ .nil
    have h1 := exB_list (insB_ex (len := len) hb a (SP.fst a.dfl x) h.1)
    have h2 := exB_list (insB_ex (len := len) hb b (SP.snd b.dfl x) h.2)
    show (match unBxs back ((a.ins f len (SP.fst a.dfl x)).map encB), unBxs back ((b.ins f len (SP.snd b.dfl x)).map encB) with
      | some a, some b => some (DV.fn g a b)
      | _, _ => none) = _
    rw [h1, h2]; rfl
  | .agg _, x, h => by cases h
  | .tup _, x, h => by cases h
theorem exC_list : ∀ {l' l : List TV}, All2 (exC back) l' l → unCxs back (l'.map encK) = some (l.map encK)
  | _, _, .nil => rfl
  | _, _, .cons h t => by simp only [List.map_cons, unCxs, show unCx back _ = some _ from h.2.2, exC_list t]
def ex1 (back : Sel) (d' d : TV) : Prop := is1T d' = true ∧ is1T d = true ∧ un1x back (enc1 d') = some (enc1 d)
theorem un1x_cell {d' d : TV} (h : exC back d' d) : ex1 back d' d := by
  refine ⟨isC_1 h.1, isC_1 h.2.1, ?_⟩
  rw [enc1_cell h.1, enc1_cell h.2.1]
  have := encK_agg h.1
  unfold un1x
  split
  · rename_i q; exact absurd q (this.1 _)
  · exact h.2.2
theorem insA_ex (hb : ∀ k, k < m → back[f k]? = some (some k)) (s : VS) : ∀ (x : s.T), s.fitA m = true → All2 (ex1 back) (s.ins f len x) (s.ins id len x) := by
  have base : ∀ (s : VS) (x : s.T), s.fitC m = true → All2 (ex1 back) (s.ins f len x) (s.ins id len x) := fun s x h => (insC_ex hb s x h).mono fun _ _ => un1x_cell
  induction s with
  | agg s _ =>
    intro x h
    refine .cons ⟨rfl, rfl, ?_⟩ .nil
    have h1 := exC_list (insC_ex (len := len) hb s x h)
    show (unCxs back ((s.ins f len x).map encK)).map DV.agg = _
    rw [h1]; rfl
  | cons a b iha ihb =>
    intro x h
    simp only [VS.fitA, Bool.and_eq_true] at h
    exact (iha _ h.1).append (ihb _ h.2)
  | _ => intro x h; exact base _ x h
theorem ex1_list : ∀ {l' l : List TV}, All2 (ex1 back) l' l → un1xs back (l'.map enc1) = some (l.map enc1)
  | _, _, .nil => rfl
  | _, _, .cons h t => by simp only [List.map_cons, un1xs, show un1x back _ = some _ from h.2.2, ex1_list t]
def exD (back : Sel) (d' d : TV) : Prop := unDx back (enc d') = some (enc d)
theorem unDx_one {d' d : TV} (h : ex1 back d' d) : exD back d' d := by
  unfold exD
  rw [enc1_of h.1, enc1_of h.2.1]
  unfold unDx
  split
  · rename_i q
    have := h.1
    cases d' <;> first | (cases q; done) | cases this
  · exact h.2.2
theorem insT_ex (hb : ∀ k, k < m → back[f k]? = some (some k)) (s : VS) : ∀ (x : s.T), s.fitT m = true → All2 (exD back) (s.ins f len x) (s.ins id len x) := by
  have base : ∀ (s : VS) (x : s.T), s.fitA m = true → All2 (exD back) (s.ins f len x) (s.ins id len x) := fun s x h => (insA_ex hb s x h).mono fun _ _ => unDx_one
  induction s with
  | tup s _ =>
    intro x h
    refine .cons ?_ .nil
    have h1 := ex1_list (insA_ex (len := len) hb s x h)
    show (un1xs back ((s.ins f len x).map enc1)).map DV.tup = _
    rw [h1]; rfl
  | cons a b iha ihb =>
    intro x h
    simp only [VS.fitT, Bool.and_eq_true] at h
    exact (iha _ h.1).append (ihb _ h.2)
  | _ => intro x h; exact base _ x h
def OS.fit (m : Nat) : OS → Bool
  | .st s => s.fitC m
  | .li _ _ _ => true
  | .dead => true
theorem insO_ex (hb : ∀ k, k < m → back[f k]? = some (some k)) : ∀ (o : OS) (x : o.T), o.fit m = true → unOx back (encO (o.ins f len x)) (encO (o.ins id len x))
  | .st s, x, h => exC_list (insC_ex hb s x h)
  | .li _ _ _, x, _ => ⟨rfl, rfl⟩
  | .dead, x, _ => by
    show unOx back .dead .dead
    unfold unOx; trivial
theorem inss_ex (hb : ∀ k, k < m → back[f k]? = some (some k)) : ∀ (os : List OS) (y : OS.Ts os), os.all (OS.fit m) = true → All2 (fun o' o => unOx back (encO o') (encO o)) (OS.inss f len os y) (OS.inss id len os y)
  | [], _, _ => .nil
  | o :: r, y, h => by
    simp only [List.all_cons, Bool.and_eq_true] at h
    exact .cons (insO_ex hb o _ h.1) (inss_ex hb r _ h.2)
end
def ixOf (i : Nat) : List Nat → Nat → Option Nat
  | [], _ => none
  | x :: r, k => if x = i then some k else ixOf i r (k + 1)
theorem ixOf_some {i : Nat} : ∀ {l : List Nat} {k j : Nat}, ixOf i l k = some j → k ≤ j ∧ l[j - k]? = some i
  | [], k, j, h => by cases h
  | x :: r, k, j, h => by
    unfold ixOf at h
    split at h
    · rename_i hx; cases h; subst hx; exact ⟨Nat.le_refl _, by simp⟩
    · obtain ⟨h1, h2⟩ := ixOf_some h
      refine ⟨by omega, ?_⟩
      rw [show j - k = (j - (k + 1)) + 1 by omega]
      simpa using h2
theorem ixOf_none {i : Nat} : ∀ {l : List Nat} {k : Nat}, ixOf i l k = none → i ∉ l
  | [], k, h => by simp
  | x :: r, k, h => by
    unfold ixOf at h
    split at h
    · cases h
    · rename_i hx
      intro hm
      rcases List.mem_cons.1 hm with rfl | hm
      · exact hx rfl
      · exact ixOf_none h hm
theorem ixOf_at {l : List Nat} (hn : l.Nodup) {i k : Nat} (h : l[k]? = some i) : ixOf i l 0 = some k := by
  cases hx : ixOf i l 0 with
  | none => exact absurd (List.mem_of_getElem? h) (ixOf_none hx)
  | some j =>
    have := (ixOf_some hx).2
    rw [Nat.sub_zero] at this
    rw [nodup_get hn this h]
def stK (os : List OS) (k : Nat) : Bool := match os[k]? with
  | some (.st _) => true
  | _ => false
/-- Those that come under new numbers. -/
def newK (os : List OS) (m : Nat) : List Nat := (List.range m).filter fun k => !stK os k
def numK (os : List OS) (sel : List Nat) (n m k : Nat) : Nat := if stK os k then (sel[k]?).getD 0 else n + (ixOf k (newK os m) 0).getD 0
def baseL (os : List OS) (sel : List Nat) (new : List TO) : List TO → Nat → List TO
  | [], _ => []
  | o :: r, i => (match ixOf i sel 0 with
    | some k => if stK os k then (new[k]?).getD .dead else .dead
    | none => o) :: baseL os sel new r (i + 1)
def baseB (os : List OS) (sel : List Nat) : List TO → Nat → Sel
  | [], _ => []
  | o :: r, i => (match ixOf i sel 0 with
    | some k => if stK os k then some k else none
    | none => none) :: baseB os sel r (i + 1)
def mergeL (os : List OS) (sel : List Nat) (new : List TO) (L : List TO) : List TO := baseL os sel new L 0 ++ (newK os new.length).map fun k => (new[k]?).getD .dead
def mergeB (os : List OS) (sel : List Nat) (m : Nat) (L : List TO) : Sel := baseB os sel L 0 ++ (newK os m).map some
section
variable {os : List OS} {sel : List Nat} {new : List TO}
theorem baseL_len : ∀ (L : List TO) (i : Nat), (baseL os sel new L i).length = L.length
  | [], _ => rfl
  | o :: r, i => by simp [baseL, baseL_len r]
theorem baseB_len : ∀ (L : List TO) (i : Nat), (baseB os sel L i).length = L.length
  | [], _ => rfl
  | o :: r, i => by simp [baseB, baseB_len r]
theorem baseL_get : ∀ (L : List TO) (i j : Nat) (o : TO), L[j]? = some o → (baseL os sel new L i)[j]? = some (match ixOf (i + j) sel 0 with
    | some k => if stK os k then (new[k]?).getD .dead else .dead
    | none => o)
  | [], i, j, o, h => by simp at h
  | x :: r, i, j, o, h => by
    cases j with
    | zero => simp at h; subst h; rfl
    | succ j =>
      simp only [baseL, List.getElem?_cons_succ]
      rw [baseL_get r (i + 1) j o (by simpa using h), show i + 1 + j = i + (j + 1) by omega]
theorem baseB_get : ∀ (L : List TO) (i j : Nat), j < L.length → (baseB os sel L i)[j]? = some (match ixOf (i + j) sel 0 with
    | some k => if stK os k then some k else none
    | none => none)
  | [], i, j, h => by simp at h
  | x :: r, i, j, h => by
    cases j with
    | zero => rfl
    | succ j =>
      simp only [baseB, List.getElem?_cons_succ]
      rw [baseB_get r (i + 1) j (by simpa using h), show i + 1 + j = i + (j + 1) by omega]
theorem newK_nodup (os : List OS) (m : Nat) : (newK os m).Nodup := List.nodup_range.filter _
theorem newK_mem {m k : Nat} : k ∈ newK os m ↔ k < m ∧ stK os k = false := by simp [newK]
theorem num_back {n m k : Nat} {L : List TO} (hn : sel.Nodup) (hl : L.length = n) (hlt : ∀ i ∈ sel, i < n) (hs : ∀ k, stK os k = true → k < sel.length) (hk : k < m) : (mergeB os sel m L)[numK os sel n m k]? = some (some k) := by
  unfold numK mergeB
  cases hst : stK os k with
  | true =>
    have hks := hs k hst
    have h1 : sel[k]? = some sel[k] := List.getElem?_eq_getElem hks
    have h2 : sel[k] < n := hlt _ (List.getElem_mem hks)
    simp only [if_true, h1, Option.getD_some]
    rw [List.getElem?_append_left (by rw [baseB_len, hl]; exact h2), baseB_get _ _ _ (by rw [hl]; exact h2), Nat.zero_add, ixOf_at hn h1]
    simp [hst]
  | false =>
    have hm : k ∈ newK os m := newK_mem.2 ⟨hk, hst⟩
    obtain ⟨j, hj⟩ := List.mem_iff_getElem?.1 hm
    have hx := ixOf_at (newK_nodup os m) hj
    simp only [Bool.false_eq_true, if_false, hx, Option.getD_some]
    rw [List.getElem?_append_right (by rw [baseB_len, hl]; omega), baseB_len, hl, Nat.add_sub_cancel_left, List.getElem?_map, hj]
    rfl
theorem merge_ok {P : Program} {L : List TO} {A A' : List Obj} {old : List TO} (hn : sel.Nodup) (hlt : ∀ i ∈ sel, i < L.length) (hs : ∀ k, stK os k = true → k < sel.length) (hA : ∀ k, stK os k = true ↔ ∃ c, A[k]? = some (.st c)) (hm : sel.length ≤ new.length)
    (hA' : A' = eL old) (hr : All2 (fun o' o => unOx (mergeB os sel new.length L) (encO o') (encO o)) new old) : Merge (eL L) sel A A' (mergeB os sel new.length L) (eL (mergeL os sel new L)) := by
  have hlen : new.length = old.length := hr.length
  have gl : ∀ {i : Nat}, i < L.length → (mergeB os sel new.length L)[i]? = some (match ixOf i sel 0 with
      | some k => if stK os k then some k else none
      | none => none) := fun {i} h => by
    unfold mergeB
    rw [List.getElem?_append_left (by rw [baseB_len]; exact h), baseB_get _ _ _ h, Nat.zero_add]
  have gr : ∀ {j : Nat}, (mergeB os sel new.length L)[L.length + j]? = ((newK os new.length)[j]?).map some := fun {j} => by
    unfold mergeB
    rw [List.getElem?_append_right (by rw [baseB_len]; omega), baseB_len, Nat.add_sub_cancel_left, List.getElem?_map]
  have ol : ∀ {i : Nat} {o : TO}, L[i]? = some o → (mergeL os sel new L)[i]? = some (match ixOf i sel 0 with
      | some k => if stK os k then (new[k]?).getD .dead else .dead
      | none => o) := fun {i o} h => by
    unfold mergeL
    rw [List.getElem?_append_left (by rw [baseL_len]; exact (List.getElem?_eq_some_iff.1 h).1), baseL_get _ _ _ _ h, Nat.zero_add]
  have or' : ∀ {j : Nat}, (mergeL os sel new L)[L.length + j]? = ((newK os new.length)[j]?).map fun k => (new[k]?).getD .dead := fun {j} => by
    unfold mergeL
    rw [List.getElem?_append_right (by rw [baseL_len]; omega), baseL_len, Nat.add_sub_cancel_left, List.getElem?_map]
  have back : ∀ {i k : Nat}, (mergeB os sel new.length L)[i]? = some (some k) → (i < L.length ∧ sel[k]? = some i ∧ stK os k = true) ∨ (L.length ≤ i ∧ (newK os new.length)[i - L.length]? = some k) := by
    intro i k h
    by_cases hi : i < L.length
    · rw [gl hi] at h
      cases hx : ixOf i sel 0 with
      | none => rw [hx] at h; cases h
      | some k' =>
        rw [hx] at h
        simp only at h
        split at h
        · rename_i hst
          cases h
          have := (ixOf_some hx).2
          rw [Nat.sub_zero] at this
          exact .inl ⟨hi, this, hst⟩
        · cases h
    · have hj : i = L.length + (i - L.length) := by omega
      rw [hj, gr] at h
      cases hx : (newK os new.length)[i - L.length]? with
      | none => rw [hx] at h; cases h
      | some k' => rw [hx] at h; cases h; exact .inr ⟨by omega, by first | exact hx | rfl⟩
  have geteL : ∀ {l : List TO} {i : Nat}, (eL l)[i]? = (l[i]?).map encO := fun {l i} => by unfold eL; rw [List.getElem?_map]
  have hnew : ∀ {k : Nat}, k < new.length → ∃ o' o, new[k]? = some o' ∧ old[k]? = some o ∧ unOx (mergeB os sel new.length L) (encO o') (encO o) := fun {k} h => by
    obtain ⟨o, h1, h2⟩ := hr.get (List.getElem?_eq_getElem h)
    exact ⟨_, o, List.getElem?_eq_getElem h, h1, h2⟩
  have hdom : ∀ {i : Nat}, i < L.length → ∃ o, L[i]? = some o := fun {i} h => ⟨_, List.getElem?_eq_getElem h⟩
  refine ⟨?_, ?_, fun i hi hn' => ?_, fun k i c h1 h2 => ?_, fun k i h1 h2 => ?_, fun i k h => ?_, fun i h1 h2 => ?_, fun i j k h1 h2 => ?_⟩
  · simp [mergeB, mergeL, eL_len, baseB_len, baseL_len]
  · simp [mergeL, eL_len, baseL_len]
  · rw [eL_len] at hi
    have hx : ixOf i sel 0 = none := by
      cases hx : ixOf i sel 0 with
      | none => rfl
      | some k => exact absurd (List.mem_of_getElem? (ixOf_some hx).2) hn'
    obtain ⟨o, ho⟩ := hdom hi
    refine ⟨by rw [gl hi, hx], ?_⟩
    rw [geteL, geteL, ol ho, hx, ho]
  · have hi := hlt i (List.mem_of_getElem? h1)
    rw [gl hi, ixOf_at hn h1]
    simp only
    rw [if_pos ((hA k).2 ⟨c, h2⟩)]
  · have hi := hlt i (List.mem_of_getElem? h1)
    have hst : ¬ stK os k = true := fun q => by obtain ⟨c, hc⟩ := (hA k).1 q; exact h2 c hc
    obtain ⟨o, ho⟩ := hdom hi
    refine ⟨?_, ?_⟩
    · rw [geteL, ol ho, ixOf_at hn h1]
      simp only
      rw [if_neg hst]; rfl
    · rw [gl hi, ixOf_at hn h1]
      simp only
      rw [if_neg hst]
  · subst hA'
    rcases back h with ⟨h1, h2, h3⟩ | ⟨h1, h2⟩
    · have hk : k < new.length := by have := (List.getElem?_eq_some_iff.1 h2).1; omega
      obtain ⟨o', o, e1, e2, e3⟩ := hnew hk
      obtain ⟨x, hx⟩ := hdom h1
      refine ⟨.inl (List.mem_of_getElem? h2), encO o, encO o', by rw [geteL, e2]; rfl, ?_, e3⟩
      rw [geteL, ol hx, ixOf_at hn h2]
      simp only
      rw [if_pos h3, e1]; rfl
    · have hk : k < new.length := (newK_mem.1 (List.mem_of_getElem? h2)).1
      obtain ⟨o', o, e1, e2, e3⟩ := hnew hk
      refine ⟨.inr (by rw [eL_len]; exact h1), encO o, encO o', by rw [geteL, e2]; rfl, ?_, e3⟩
      rw [geteL, show i = L.length + (i - L.length) by omega, or', h2]
      simp only [Option.map_some, e1, Option.getD_some]
  · rw [eL_len] at h1
    have h2' : i - L.length < (newK os new.length).length := by
      simp only [mergeL, eL_len, List.length_append, baseL_len, List.length_map] at h2
      omega
    obtain ⟨k, hk⟩ : ∃ k, (newK os new.length)[i - L.length]? = some k := ⟨_, List.getElem?_eq_getElem h2'⟩
    refine ⟨k, ?_⟩
    rw [show i = L.length + (i - L.length) by omega, gr, hk]
    rfl
  · rcases back h1 with ⟨a1, a2, a3⟩ | ⟨a1, a2⟩ <;> rcases back h2 with ⟨b1, b2, b3⟩ | ⟨b1, b2⟩
    · rw [a2] at b2; cases b2; rfl
    · have := (newK_mem.1 (List.mem_of_getElem? b2)).2
      rw [a3] at this; cases this
    · have := (newK_mem.1 (List.mem_of_getElem? a2)).2
      rw [b3] at this; cases this
    · have := nodup_get (newK_nodup os new.length) a2 b2
      omega
end
end Go.Sim

