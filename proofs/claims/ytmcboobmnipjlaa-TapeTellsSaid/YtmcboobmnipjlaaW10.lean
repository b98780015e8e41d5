/- Part 10 of the claim TapeTells: B2, T21, LParses, LJoins, LTells -/
import Derived.JoinedOf
import Derived.Test.YtmcboobmnipjlaaW9
import Derived.Test.YtmcboobmnipjlaaW8
set_option linter.unusedSimpArgs false
set_option linter.unusedVariables false
set_option linter.defProp false
namespace Go.Sim
open Go.RowKit Go.ChangeShapes

def h00 : Heap := ⟨0, fun _ => none, fun b o e => by cases e⟩
def β00 : Place := fun _ => none
theorem rel00 (P : Program) (w : World) : Rel P β00 h00 w := ⟨fun b m s e => (by cases e), fun b m s o e => (by cases e), fun b b' m s s' o o' e => (by cases e)⟩
theorem ro00 : RO h00 := fun b o e => by cases e

theorem keptBut_below {W W' : World} (hb : Below W.heap.size W W') (may : MemPlace → Prop) : W.keptBut W' may := by
  refine ⟨hb.os, hb.output, fun i hi => ?_⟩
  rw [hb.block i hi]
  cases W.heap[i]? with
  | none => trivial
  | some o => cases o with
    | cells c t fr => exact ⟨rfl, rfl, rfl, fun _ _ => rfl⟩
    | map es ck => exact .inr ⟨rfl, rfl⟩
    | _ => rfl

theorem trodAll_below {H : Type} {enc : TypeId × Value → H} {P : Program} (hl : laidOutB P = true) {W W' : World} (hb : Below W.heap.size W W') : ∀ {ts : List TypeId} {vs : List Value} {ds : List (DataW H)} {ps : List MemPlace},
    ts.all (fun t => P.readableRec t && decide (t < P.types.size)) = true → DataW.TrodAll enc P W 0 (fun _ => true) true ts vs ds ps → (∀ x ∈ ps, x.block < W.heap.size) →
    DataW.TrodAll enc P W' 0 (fun b => decide (b < W.heap.size)) true ts vs ds ps
  | [], [], [], _, _, h, _ => h
  | t :: ts, v :: vs, d :: ds, ps, hr, h, hlt => by
    obtain ⟨p, q, h1, h2, rfl⟩ := h
    simp only [List.all_cons, Bool.and_eq_true, decide_eq_true_eq] at hr
    exact ⟨p, q, Below.trod hl hr.1.1 hr.1.2 h1 hb (fun x hx => hlt x (by simp [hx])), trodAll_below hl hb hr.2 h2 (fun x hx => hlt x (by simp [hx])), rfl⟩
  | [], [], _ :: _, _, _, h, _ => by simp [DataW.TrodAll] at h
  | [], _ :: _, _, _, _, h, _ => by simp [DataW.TrodAll] at h
  | _ :: _, [], _, _, _, h, _ => by simp [DataW.TrodAll] at h
  | _ :: _, _ :: _, [], _, _, h, _ => by simp [DataW.TrodAll] at h

theorem trodAll_len {H : Type} {enc : TypeId × Value → H} {P : Program} {w : World} {base : Nat} {sp : Nat → Bool} {held : Bool} : ∀ {ts : List TypeId} {vs : List Value} {ds : List (DataW H)} {ps : List MemPlace}, DataW.TrodAll enc P w base sp held ts vs ds ps → ds.length = ts.length
  | [], [], [], _, _ => rfl
  | t :: ts, v :: vs, d :: ds, ps, h => by
    obtain ⟨p, q, _, h2, _⟩ := h
    simp [trodAll_len h2]
  | [], [], _ :: _, _, h => by simp [DataW.TrodAll] at h
  | [], _ :: _, _, _, h => by simp [DataW.TrodAll] at h
  | _ :: _, [], _, _, h => by simp [DataW.TrodAll] at h
  | _ :: _, _ :: _, [], _, h => by simp [DataW.TrodAll] at h

/-- What a law's walk gives its row. -/
theorem law_calls {H : Type} {enc : TypeId × Value → H} {P : Program} {f : FuncId} {fn : Func} {s : ChangeSpec} {tb : TypeId} {n d : Nat} (hres : fn.resultTypes = #[tb]) (hb : P.underlying tb = some .bool) (hvars : s.vars = [])
    (hn : fn.params.toList.length = n) (hs : ∀ ds : List (DataW H), ds.length = n → s.fn H ds = { results := [.lit (.bool true)], args := ds })
    (hl : laidOutB P = true) (hr : fn.params.toList.all (fun t => P.readableRec t && decide (t < P.types.size)) = true) (hp : fn.params.toList.all (plainT P d) = true)
    (walk : ∀ h ars, RO h → RVals P h d fn.params.toList ars → ACalls P f ars h (fun v _ => v = .bool true))
    (W : World) (base : Nat) (args : Array Value) (ds gs : List (DataW H)) (before : List MemPlace) (hval : ∀ (j : Nat) t v, fn.params[j]? = some t → args[j]? = some v → Value.okWide P W .any base t v)
    (hW : DataW.Whole enc P fn.params.toList s.vars false W args.toList ds gs before) :
    Calls P f args W fun e W' => ∃ v, e = .returned v ∧ s.post enc P fn false true false false W args v W' := by
  have hW' := hW
  obtain ⟨p, q, hA, hV, hpq, hfz, hnd⟩ := hW
  rw [hvars] at hV
  obtain ⟨rfl, rfl⟩ := trodVars_none hV
  have hlen := trodAll_len hA
  obtain ⟨β, h, ars, L, hv, hrv⟩ := lift_args d _ _ _ _ hA hp (fun j t v e1 e2 => ⟨base, hval j t v (by simpa using e1) (by simpa using e2)⟩) β00 h00 (rel00 P W) ro00
  have hc := (walk h ars L.ro hrv).2 β W args.toList hv L.rel
  rw [Array.toArray_toList] at hc
  refine hc.mono fun e W' => ?_
  rintro ⟨mv, rfl, v, h', β', hvr, hr', st, rfl⟩
  cases hvr
  have hbel : Below W.heap.size W W' := ⟨st.os, st.tape, st.output, st.size, fun m hm => st.frame m hm (by
    rintro ⟨b, s1, o, _, hg, hrw⟩
    rw [L.ro b o hg] at hrw
    cases hrw)⟩
  have hsp : s.fn H (ds ++ []) = { results := [.lit (.bool true)], args := ds } := by rw [List.append_nil]; exact hs ds (by rw [hlen, hn])
  have hlt : ∀ x ∈ before, x.block < W.heap.size := fun x hx => hW'.lt x hx
  refine ⟨_, rfl, ds, [], before, [], before, [], hW', ?_, ?_, ?_, keptBut_below hbel _, fun e => by cases e⟩
  · rw [hsp, hres]
    exact trodAll_mk1 ⟨1, by unfold DataW.trod; rw [hb]; rfl⟩
  · rw [hsp]
    have : p = before := by rw [hpq, List.append_nil]
    subst this
    exact trodAll_below hl hbel hr hA hlt
  · rw [hsp, hvars]; rfl
end Go.Sim

set_option linter.unusedVariables false
namespace Go.Sim
open Go.RowKit
/-- What holds of the values of a type. -/
def CT.ok : (c : CT) → c.T → Prop
  | .int k, n => k.min ≤ (show Int from n) ∧ (show Int from n) ≤ k.max
  | .bool, _ => True
  | .str, s => s.size ≤ maxLen
  | .sl r, xs => (show List r.T from xs).length ≤ maxLen ∧ ∀ x ∈ (show List r.T from xs), CT.ok r x
  | .pair a b, x => CT.ok a x.1 ∧ CT.ok b x.2
def fitF (f : TypeId → CT → Bool) (P : Program) : List Field → CT → Nat → Nat → Bool
  | [], _, _, _ => false
  | fd :: r, c, off, tot => match r with
    | [] => fd.offset == off && f fd.type c && P.cellsOf fd.type == c.size && off + c.size == tot
    | _ :: _ => match c with
      | .pair a b => fd.offset == off && f fd.type a && P.cellsOf fd.type == a.size && fitF f P r b (off + a.size) tot
      | _ => false
def fitN (f : CT → Bool) (z : Nat) : Nat → CT → Bool
  | 0, _ => false
  | n + 1, c => match n with
    | 0 => f c && c.size == z
    | m + 1 => match c with
      | .pair a b => f a && a.size == z && fitN f z (m + 1) b
      | _ => false
/-- Is it the type's? -/
def fitT (P : Program) : Nat → TypeId → CT → Bool
  | 0, _, _ => false
  | n + 1, t, c => match P.underlying t with
    | some .bool => c.eqb .bool
    | some (.int k) => c.eqb (.int k)
    | some .string => c.eqb .str
    | some (.slice e) => match c with
      | .sl r => fitT P n e r && P.cellsOf e == r.size
      | _ => false
    | some (.struct fs) => fitF (fitT P n) P fs.toList c 0 (P.cellsOf t)
    | some (.array len e) => fitN (fitT P n e) (P.cellsOf e) len c && c.size == P.cellsOf t
    | _ => false
section
variable {P : Program} {h : Heap}
def below (h : Heap) (b : Nat) : Prop := b < h.next
abbrev PRs (P : Program) (h : Heap) := All2 (fun (p : PV) (v : Value) => PR P (below h) h p v)
theorem rows_flat {z : Nat} : ∀ {rows : List (List Value)}, (∀ r ∈ rows, r.length = z) → ∀ (i : Nat) (row : List Value) (j : Nat), rows[i]? = some row → j < z → rows.flatten[i * z + j]? = row[j]?
  | [], _, i, row, j, h, _ => by simp at h
  | r :: rows, hz, i, row, j, h, hj => by
    have hr := hz r List.mem_cons_self
    cases i with
    | zero =>
      simp at h; subst h
      rw [List.flatten_cons, Nat.zero_mul, Nat.zero_add, List.getElem?_append_left (by omega)]
    | succ i =>
      rw [List.flatten_cons, List.getElem?_append_right (by rw [hr, Nat.succ_mul]; omega), hr, show (i + 1) * z + j - z = i * z + j by rw [Nat.succ_mul]; omega]
      exact rows_flat (fun r hr => hz r (List.mem_cons_of_mem _ hr)) i row j (by simpa using h) hj
theorem choose_rows {c : CT} : ∀ {rows : List (List Value)}, (∀ r ∈ rows, ∃ x : c.T, CT.ok c x ∧ PRs P h (encC c x) r) → ∃ xs : List c.T, (∀ x ∈ xs, CT.ok c x) ∧ All2 (fun x r => PRs P h (encC c x) r) xs rows
  | [], _ => ⟨[], fun x hx => by simp at hx, .nil⟩
  | r :: rows, hr => by
    obtain ⟨x, h1, h2⟩ := hr r List.mem_cons_self
    obtain ⟨xs, h3, h4⟩ := choose_rows fun r h => hr r (List.mem_cons_of_mem _ h)
    exact ⟨x :: xs, fun y hy => by rcases List.mem_cons.1 hy with rfl | hy; exact h1; exact h3 y hy, .cons h2 h4⟩
theorem fitF_sound {f : TypeId → CT → Bool} {R : TypeId → List Value → Prop} (hf : ∀ t c cs, R t cs → f t c = true → cs.length = c.size ∧ ∃ x : c.T, CT.ok c x ∧ PRs P h (encC c x) cs) {cs : List Value} {tot : Nat} (hl : cs.length = tot) :
    ∀ (fs : List Field) (c : CT) (off : Nat), fitF f P fs c off tot = true → (∀ fd ∈ fs, R fd.type ((cs.drop fd.offset).take (P.cellsOf fd.type))) → (cs.drop off).length = c.size ∧ ∃ x : c.T, CT.ok c x ∧ PRs P h (encC c x) (cs.drop off)
  | [], c, off, e, _ => by cases e
  | [fd], c, off, e, hr => by
    simp only [fitF, Bool.and_eq_true, beq_iff_eq] at e
    obtain ⟨⟨⟨e1, e2⟩, e3⟩, e4⟩ := e
    obtain ⟨h1, x, h2, h3⟩ := hf _ c _ (hr fd List.mem_cons_self) e2
    rw [e1, e3, List.take_of_length_le (by simp; omega)] at h1 h3
    exact ⟨h1, x, h2, h3⟩
  | fd :: g :: r, c, off, e, hr => by
    cases c with
    | pair a b =>
      simp only [fitF, Bool.and_eq_true, beq_iff_eq] at e
      obtain ⟨⟨⟨e1, e2⟩, e3⟩, e4⟩ := e
      obtain ⟨h1, x, h2, h3⟩ := hf _ a _ (hr fd List.mem_cons_self) e2
      obtain ⟨g1, y, g2, g3⟩ := fitF_sound hf hl (g :: r) b (off + a.size) (by simpa [fitF] using e4) fun fd h => hr fd (List.mem_cons_of_mem _ h)
      rw [e1, e3] at h1 h3
      have hcut : cs.drop off = (cs.drop off).take a.size ++ cs.drop (off + a.size) := by
        rw [← List.drop_drop]; exact (List.take_append_drop _ _).symm
      refine ⟨?_, (x, y), ⟨h2, g2⟩, ?_⟩
      · rw [hcut, List.length_append, h1, g1]; rfl
      · rw [hcut]; exact h3.append g3
    | _ => simp [fitF] at e
theorem fitN_sound {f : CT → Bool} {z : Nat} {R : List Value → Prop} (hf : ∀ c cs, R cs → f c = true → cs.length = c.size ∧ ∃ x : c.T, CT.ok c x ∧ PRs P h (encC c x) cs) {cs : List Value} :
    ∀ (n : Nat) (c : CT) (k : Nat), fitN f z n c = true → (∀ i, i < n → R ((cs.drop ((k + i) * z)).take z)) → cs.length = k * z + c.size → (cs.drop (k * z)).length = c.size ∧ ∃ x : c.T, CT.ok c x ∧ PRs P h (encC c x) (cs.drop (k * z))
  | 0, c, k, e, _, _ => by cases e
  | 1, c, k, e, hr, hl => by
    simp only [fitN, Bool.and_eq_true, beq_iff_eq] at e
    have h0 := hr 0 (by omega)
    rw [Nat.add_zero, List.take_of_length_le (by simp; omega)] at h0
    obtain ⟨h1, x, h2, h3⟩ := hf c _ h0 e.1
    exact ⟨h1, x, h2, h3⟩
  | n + 2, c, k, e, hr, hl => by
    cases c with
    | pair a b =>
      simp only [fitN, Bool.and_eq_true, beq_iff_eq] at e
      obtain ⟨⟨e1, e2⟩, e3⟩ := e
      have h0 := hr 0 (by omega)
      rw [Nat.add_zero] at h0
      obtain ⟨h1, x, h2, h3⟩ := hf a _ h0 e1
      have hl' : cs.length = (k + 1) * z + b.size := by rw [hl, Nat.succ_mul]; simp only [CT.size]; omega
      obtain ⟨g1, y, g2, g3⟩ := fitN_sound hf (n + 1) b (k + 1) (by simpa [fitN] using e3) (fun i hi => by have := hr (i + 1) (by omega); rwa [show k + (i + 1) = k + 1 + i by omega] at this) hl'
      have hcut : cs.drop (k * z) = (cs.drop (k * z)).take z ++ cs.drop ((k + 1) * z) := by
        rw [show (k + 1) * z = k * z + z by rw [Nat.succ_mul], ← List.drop_drop]; exact (List.take_append_drop _ _).symm
      refine ⟨?_, (x, y), ⟨h2, g2⟩, ?_⟩
      · rw [hcut, List.length_append, h1, g1]; rfl
      · rw [hcut]; exact h3.append g3
    | _ => simp [fitN] at e
theorem rv_pr : ∀ (n d : Nat) (t : TypeId) (c : CT) (cs : List Value), RV P h d t cs → fitT P n t c = true → cs.length = c.size ∧ ∃ x : c.T, CT.ok c x ∧ PRs P h (encC c x) cs
  | 0, d, t, c, cs, _, e => by cases e
  | n + 1, 0, t, c, cs, hr, _ => hr.elim
  | n + 1, d + 1, t, c, cs, hr, e => by
    unfold fitT at e
    unfold RV at hr
    split at e
    · rename_i hu
      rw [hu] at hr
      have := CT.of_eqb e
      subst this
      obtain ⟨b, rfl⟩ := hr
      exact ⟨rfl, b, trivial, .cons (.v rfl) .nil⟩
    · rename_i k hu
      rw [hu] at hr
      have := CT.of_eqb e
      subst this
      obtain ⟨x, rfl, hx⟩ := hr
      simp only [Lit.wf, Bool.and_eq_true, decide_eq_true_eq] at hx
      exact ⟨rfl, x, hx, .cons (.v rfl) .nil⟩
    · rename_i hu
      rw [hu] at hr
      have := CT.of_eqb e
      subst this
      obtain ⟨s, rfl, hs⟩ := hr
      exact ⟨rfl, s, hs, .cons (.v rfl) .nil⟩
    · rename_i te hu
      rw [hu] at hr
      split at e
      · rename_i r
        simp only [Bool.and_eq_true, beq_iff_eq] at e
        rcases hr with rfl | rfl | ⟨b, rows, rfl, hne, hm, hg, hrows⟩
        · exact ⟨rfl, [], ⟨Nat.zero_le _, fun x hx => by simp at hx⟩, .cons .nil .nil⟩
        · exact ⟨rfl, [], ⟨Nat.zero_le _, fun x hx => by simp at hx⟩, .cons .dud .nil⟩
        · obtain ⟨xs, h1, h2⟩ := choose_rows (P := P) (h := h) (c := r) (rows := rows) fun row hrow => (rv_pr n d te r row (hrows row hrow).2 e.1).2
          have hl : xs.length = rows.length := h2.length
          have hz : ∀ row ∈ rows, row.length = r.size := fun row hrow => by rw [(hrows row hrow).1, e.2]
          refine ⟨rfl, xs, ⟨by rw [hl]; exact hm, h1⟩, .cons ?_ .nil⟩
          have hml : (xs.map (encC r)).length = rows.length := by simp [hl]
          rw [← hml]
          refine PR.sl (h.wf _ _ hg) hg (CT.size_pos r) ?_ ?_ ?_ (.inl rfl) (by rw [hml]; exact hm)
          · rw [hml, flat_len rows r.size hz]; omega
          · intro i row hrow
            rw [List.getElem?_map] at hrow
            cases hx : xs[i]? with
            | none => rw [hx] at hrow; cases hrow
            | some x => rw [hx] at hrow; cases hrow; exact encC_len r x
          · intro i row j p u hrow hp hu'
            rw [List.getElem?_map] at hrow
            cases hx : xs[i]? with
            | none => rw [hx] at hrow; cases hrow
            | some x =>
              rw [hx] at hrow; cases hrow
              obtain ⟨vrow, hv, hpr⟩ := h2.get hx
              have hj : j < r.size := by rw [← encC_len r x]; exact (List.getElem?_eq_some_iff.1 hp).1
              rw [Nat.zero_add, rows_flat hz i vrow j hv hj] at hu'
              obtain ⟨u', hu2, hpr2⟩ := hpr.get hp
              rw [hu'] at hu2; cases hu2
              exact hpr2
      · cases e
    · rename_i fs hu
      rw [hu] at hr
      obtain ⟨h1, h2⟩ := hr
      have := fitF_sound (P := P) (h := h) (f := fitT P n) (R := fun t cs => RV P h d t cs) (fun t c cs hr he => rv_pr n d t c cs hr he) h1 fs.toList c 0 e (fun fd hfd => h2 fd hfd)
      rwa [List.drop_zero] at this
    · rename_i len te hu
      rw [hu] at hr
      obtain ⟨h1, h2⟩ := hr
      simp only [Bool.and_eq_true, beq_iff_eq] at e
      have := fitN_sound (P := P) (h := h) (f := fitT P n te) (z := P.cellsOf te) (R := fun cs => RV P h d te cs) (fun c cs hr he => rv_pr n d te c cs hr he) len c 0 e.1 (fun i hi => by rw [Nat.zero_add]; exact h2 i hi) (by rw [h1, e.2]; omega)
      rwa [Nat.zero_mul, List.drop_zero] at this
    · cases e
def CTs : List CT → Type
  | [] => Unit
  | c :: r => c.T × CTs r
def CT.oks : (cs : List CT) → CTs cs → Prop
  | [], _ => True
  | c :: r, x => CT.ok c x.1 ∧ CT.oks r x.2
def isAggT (P : Program) (t : TypeId) : Bool := match P.underlying t with
  | some (.struct _) => true
  | some (.array _ _) => true
  | _ => false
def argT (P : Program) (t : TypeId) (c : CT) (x : c.T) : TV := if isAggT P t then .agg (tvC c x) else (tvC c x).headD undT
def argTs (P : Program) : List TypeId → (cs : List CT) → CTs cs → List TV
  | t :: ts, c :: cs, x => argT P t c x.1 :: argTs P ts cs x.2
  | _, _, _ => []
def fitTs (P : Program) (n : Nat) : List TypeId → List CT → Bool
  | [], [] => true
  | t :: ts, c :: cs => fitT P n t c && (isAggT P t || c.size == 1) && fitTs P n ts cs
  | _, _ => false
theorem tvC_isC : ∀ (c : CT) (x : c.T), (tvC c x).all isC = true
  | .int _, _ => rfl
  | .bool, _ => rfl
  | .str, _ => rfl
  | .sl _, _ => rfl
  | .pair a b, x => by simp only [tvC, List.all_append, tvC_isC a, tvC_isC b, Bool.and_self]
theorem pr_dc {S : Nat → Prop} {γ : Pl} {M : List Obj} : ∀ {c : CT} {x : c.T} {vs : List Value}, All2 (fun p v => PR P S h p v) (encC c x) vs → All2 (DC P S γ M h) ((tvC c x).map encK) vs := by
  intro c x vs ha
  rw [tvC_enc]
  generalize encC c x = ps at ha
  induction ha with
  | nil => exact .nil
  | cons a _ ih => exact .cons a ih
theorem rvals_dr {S : Nat → Prop} (hS : ∀ b, below h b → S b) {γ : Pl} {M : List Obj} (n d : Nat) : ∀ (ts : List TypeId) (cs : List CT) (vs : List Value), RVals P h d ts vs → fitTs P n ts cs = true → ∃ xs : CTs cs, CT.oks cs xs ∧ All2 (DR P S γ M h) ((argTs P ts cs xs).map enc) vs
  | [], [], [], _, _ => ⟨(), trivial, .nil⟩
  | t :: ts, c :: cs, v :: vs, hr, hf => by
    simp only [fitTs, Bool.and_eq_true] at hf
    obtain ⟨⟨f1, f2⟩, f3⟩ := hf
    obtain ⟨xs, h1, h2⟩ := rvals_dr hS n d ts cs vs hr.2 f3
    have mono : ∀ {x : c.T} {us : List Value}, PRs P h (encC c x) us → All2 (fun p v => PR P S h p v) (encC c x) us := fun q => q.mono fun _ _ hp => hp.mono fun b hb => ⟨hS b hb, rfl⟩
    have hv := hr.1
    unfold RVal at hv
    have agg : isAggT P t = true → (∃ us : List Value, v = .agg us.toArray ∧ RV P h d t us) → ∃ xs : CTs (c :: cs), CT.oks (c :: cs) xs ∧ All2 (DR P S γ M h) ((argTs P (t :: ts) (c :: cs) xs).map enc) (v :: vs) := by
      rintro ha ⟨us, rfl, hu⟩
      obtain ⟨_, x, q1, q2⟩ := rv_pr n d t c us hu f1
      refine ⟨(x, xs), ⟨q1, h1⟩, .cons ?_ h2⟩
      show DR P S γ M h (enc (argT P t c x)) _
      unfold argT
      rw [if_pos ha]
      exact ⟨us.toArray, rfl, by simpa using pr_dc (mono q2)⟩
    split at hv
    · rename_i fs hu; exact agg (by unfold isAggT; rw [hu]) hv
    · rename_i m te hu; exact agg (by unfold isAggT; rw [hu]) hv
    · rename_i n1 n2
      have hna : isAggT P t = false := by
        unfold isAggT
        split
        · rename_i hu; exact absurd hu (n1 _)
        · rename_i hu; exact absurd hu (n2 _ _)
        · rfl
      obtain ⟨_, x, q1, q2⟩ := rv_pr n d t c [v] hv f1
      refine ⟨(x, xs), ⟨q1, h1⟩, .cons ?_ h2⟩
      show DR P S γ M h (enc (argT P t c x)) _
      unfold argT
      rw [if_neg (by rw [hna]; decide)]
      have hdc := pr_dc (γ := γ) (M := M) (mono q2)
      have hC := tvC_isC c x
      generalize tvC c x = l at hdc hC
      cases l with
      | nil => cases hdc
      | cons y l =>
        cases hdc with
        | cons a t =>
          simp only [List.all_cons, Bool.and_eq_true] at hC
          exact (dr_cell hC.1).2 a
  | [], _ :: _, _, _, hf => by simp [fitTs] at hf
  | _ :: _, [], _, _, hf => by simp [fitTs] at hf
  | [], [], _ :: _, hr, _ => hr.elim
  | _ :: _, _ :: _, [], hr, _ => hr.elim
/-- A law that is reckoned: true of whatever it is given. -/
theorem law_walk {f : FuncId} {av : VS} {m : ShT av [] → Option (RT [(.bool, [])])} (he : EntT P ⟨f, av, [], [(.bool, [])], m⟩) (n d : Nat) (ts : List TypeId) (cs : List CT) (hf : fitTs P n ts cs = true) (conv : CTs cs → ShT av []) (hc : ∀ xs, (conv xs).vals = argTs P ts cs xs)
    (hm : ∀ xs, CT.oks cs xs → m (conv xs) = some (true : Bool)) (h : Heap) (ars : List Value) (hr : RVals P h d ts ars) : ACalls P f ars h (fun v _ => v = .bool true) := by
  let W0 : Ent := { start := h.next, W := fun _ => False, A := fun _ => True, pin := fun _ _ => False, cnt := 0, few := fun _ _ e => e.elim, sub := fun _ e => e.elim }
  have hS : ∀ b, below h b → Free W0 noPl [] h b := fun b hb => ⟨hb, .inr trivial, fun id o x e => by simp at e⟩
  obtain ⟨xs, h1, h2⟩ := rvals_dr (P := P) (γ := noPl) (M := []) hS n d ts cs ars hr hf
  have hd := he (conv xs) true (hm xs h1)
  simp only at hd
  rw [hc] at hd
  have hobj : (conv xs).objs = [] := List.length_eq_zero_iff.1 (inss_len _ _ _ _)
  rw [hobj] at hd
  refine (hd W0 noPl h ars (Nat.le_refl _) (hp_none W0 h rfl fun _ _ e => e) h2).mono ?_
  rintro v h' ⟨γ', r, A', hq, H', hdr⟩
  obtain ⟨w, hw, rfl, _⟩ := (show RQ1 (.bool, []) (true : Bool) r A' from hq)
  have hw' : [TV.v (.bool true)] = [w] := hw
  cases hw'
  exact PR.scal (P := P) (S := Free W0 γ' A' h') (h := h') hdr
end
end Go.Sim

set_option maxRecDepth 100000
namespace Go.Sim
open Go.Proofs
theorem byt_of {c : Int} (h : CT.ok (.int .u8) c) : Byt c := by
  obtain ⟨h1, h2⟩ := h
  have e1 : IntKind.u8.min = 0 := by decide +kernel
  have e2 : IntKind.u8.max = 255 := by decide +kernel
  rw [e1] at h1
  rw [e2] at h2
  exact ⟨h1, Int.lt_of_le_of_lt h2 (by decide)⟩
end Go.Sim

set_option maxRecDepth 100000
namespace Go.Sim
open Go.Proofs
abbrev ctEv : CT := .pair (.int .i64) (.pair (.sl (.int .u8)) (.pair (.int .u64) (.pair (.int .i64) (.int .i64))))
theorem ev_n {x : ctEv.T} (h : CT.ok ctEv x) : 0 ≤ (show E5 from x).2.2.1 ∧ (show E5 from x).2.2.1 < 18446744073709551616 := by
  obtain ⟨-, -, h3, -⟩ := h
  obtain ⟨h1, h2⟩ := h3
  have e1 : IntKind.u64.min = 0 := by decide +kernel
  have e2 : IntKind.u64.max = 18446744073709551615 := by decide +kernel
  rw [e1] at h1
  rw [e2] at h2
  exact ⟨h1, Int.lt_of_le_of_lt h2 (by decide)⟩
theorem ev_b {x : ctEv.T} (h : CT.ok ctEv x) : ∀ c ∈ (show E5 from x).2.1, Byt c := fun c hc => byt_of (h.2.1.2 c hc)
theorem cut_b {l : List E5} (h : ∀ x ∈ l, ∀ c ∈ x.2.1, Byt c) : ∀ e ∈ cutEs l, ∀ c ∈ e.b, Byt c := by
  intro e he c hc
  obtain ⟨x, hx, rfl⟩ := List.mem_map.1 he
  exact h x (List.mem_of_mem_take hx) c (List.mem_of_mem_take hc)
end Go.Sim

set_option maxRecDepth 100000
namespace Go.Sim
open Go.Proofs
theorem tells_walk (h : Heap) (vs : List Value) (hr : RVals Try.prog h 12 [3, 3, 46, 46] vs) : ACalls Try.prog 9 vs h (fun v _ => v = .bool true) := by
  have ha : isAggT Try.prog 3 = false := by kernel_rfl
  have hb : isAggT Try.prog 46 = false := by kernel_rfl
  refine law_walk (P := Try.prog) (f := 9) (av := .cons (.int .i64) (.cons (.int .i64) (.cons (.sl ctEv) (.sl ctEv)))) (m := fun s => m_TapeTells s.1 s.2.1 s.2.2.1 s.2.2.2) e_TapeTells_ok 12 12 [3, 3, 46, 46] [.int .i64, .int .i64, .sl ctEv, .sl ctEv] (by kernel_rfl) (fun x => (x.1, x.2.1, x.2.2.1, x.2.2.2.1)) (fun x => ?_) (fun x hx => ?_) h vs hr
  · simp only [argTs, argT, ha, hb]
    rfl
  · obtain ⟨-, -, h3, h4, -⟩ := hx
    exact tells_plain x.1 x.2.1 x.2.2.1 x.2.2.2.1 (fun y hy => ev_n (h3.2 y hy)) (fun e he => cut_b (fun y hy => ev_b (h3.2 y hy)) e he)
end Go.Sim

