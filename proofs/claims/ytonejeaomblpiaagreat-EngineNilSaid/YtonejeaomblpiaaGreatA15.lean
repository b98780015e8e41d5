/- Regions that draw their order: the rule. -/
import Derived.Test.YtonejeaomblpiaaGreatA14
set_option linter.unusedSimpArgs false
set_option linter.unusedVariables false
set_option linter.defProp false
namespace Go.Sim
open Go.RowKit
section
variable {ro : Option Nat} {D : List Deferred} {P : Program} {ops : Array Oper} {T : List (List Nat)} {β₀ : Place} {h₀ : Heap} {w₀ : World} {β : Place} {S : Nat → Prop} {m : Act} {w : World} {K : Frm → Heap → Prop}

/-- On to the next actor. -/
theorem Amid.advance (G : Glob P ops T) : ∀ (rest : List (Nat × List Nat)) {pre : List Nat} {a : Frm} {h : Heap} {pend : List Nat} {blk : Nat → Option Nat}, Amid P ops T D β₀ h₀ w₀ pre a h pend blk β S m w →
    okGo P ops T pre rest = true → dWp P (elabD ops rest) K a h →
    ∃ rest' pre' a' h' pend' blk', Amid P ops T D β₀ h₀ w₀ pre' a' h' pend' blk' β S m w ∧ okGo P ops T pre' rest' = true ∧ dWp P (elabD ops rest') K a' h' ∧ pre' ++ rest'.map (·.1) = pre ++ rest.map (·.1) ∧
      (rest' = [] ∨ ∃ i ks r, rest' = (i, ks) :: r ∧ acts (opAt ops i).op = true)
  | [], pre, a, h, pend, blk, A, ho, hw => ⟨[], pre, a, h, pend, blk, A, ho, hw, rfl, .inl rfl⟩
  | (i, ks) :: r, pre, a, h, pend, blk, A, ho, hw => by
    have O := okGo_spec ho
    by_cases ha : acts (opAt ops i).op = true
    · exact ⟨(i, ks) :: r, pre, a, h, pend, blk, A, ho, hw, rfl, .inr ⟨i, ks, r, rfl, ha⟩⟩
    · have ha' : acts (opAt ops i).op = false := by simpa using ha
      have hw' : cWp P [stripC ops (opAt ops i)] (fun a h => chkAll P a h (ks.map fun k => stripC ops (opAt ops k)) ∧ dWp P (elabD ops r) K a h) a h := hw
      have go : ∀ (v : Value) (h' : Heap) (bl : Option Nat), PendV P ops a h' β bl (opAt ops i) v → ((h' = h ∧ bl = none) ∨ ∃ q, h' = h.push q ∧ bl = some h.next) → dWp P (elabD ops r) K (a.put (opAt ops i).dst v) h' →
          ∃ rest' pre' a' h' pend' blk', Amid P ops T D β₀ h₀ w₀ pre' a' h' pend' blk' β S m w ∧ okGo P ops T pre' rest' = true ∧ dWp P (elabD ops rest') K a' h' ∧ pre' ++ rest'.map (·.1) = pre ++ ((i, ks) :: r).map (·.1) ∧
            (rest' = [] ∨ ∃ i ks r, rest' = (i, ks) :: r ∧ acts (opAt ops i).op = true) := by
        intro v h' bl hp hh hd
        obtain ⟨rest', pre', a', h2, pend', blk', A', ho', hw2, e, hr⟩ := Amid.advance G r (A.float G O ha' hp hh) O.rest hd
        exact ⟨rest', pre', a', h2, pend', blk', A', ho', hw2, by rw [e]; simp, hr⟩
      rcases cWp_want hw' with ⟨h1, h2⟩ | ⟨h1, _, h3⟩
      · rcases opWp_float (acts_of ha') h2 with ⟨v, hv, _, h3⟩ | ⟨q, mk, hn, _, h3⟩
        · exact go v h none (.read h1 hv) (.inl ⟨rfl, rfl⟩) h3
        · exact go (mk h.next) (h.push q) (some h.next) (.new h1 h.next q mk rfl hn rfl (Heap.get_push_self h q) A.rel.noNext) (.inr ⟨q, rfl, rfl⟩) h3
      · exact go undef h none (.no h1 rfl) (.inl ⟨rfl, rfl⟩) h3

theorem amid_any (G : Glob P ops T) (hr₀ : Rel P β₀ h₀ w₀) {E : List (Nat × List Nat)} (hE : okGo P ops T [] E = true) (hall : ∀ i, i < ops.size → i ∈ E.map (·.1)) {R : Act → World → Prop}
    (hR : ∀ a' h' β' m' w', K a' h' → ARel D β' a' m' → Rel P β' h' w' → Step β₀ h₀ w₀ β' h' w' → R m' w') :
    ∀ (fuel : Nat) (l : List Nat) (rest : List (Nat × List Nat)) (pre : List Nat) (a : Frm) (h : Heap) (pend : List Nat) (blk : Nat → Option Nat) (β : Place) (listed : Array Bool) (m : Act) (w : World),
      l.length ≤ fuel → (∀ i, i < ops.size → listed.getD i false = false → i ∈ l) → listed.size = ops.size → pre ++ rest.map (·.1) = E.map (·.1) →
      Amid P ops T D β₀ h₀ w₀ pre a h pend blk β (fun i => listed.getD i false = true) m w → okGo P ops T pre rest = true → dWp P (elabD ops rest) K a h → AnyS ro P ops R fuel listed m w := by
  -- nothing is left when all is listed
  have fin : ∀ (rest : List (Nat × List Nat)) (pre : List Nat) (a : Frm) (h : Heap) (pend : List Nat) (blk : Nat → Option Nat) (β : Place) (listed : Array Bool) (m : Act) (w : World), (∀ i, i < ops.size → listed.getD i false = true) →
      Amid P ops T D β₀ h₀ w₀ pre a h pend blk β (fun i => listed.getD i false = true) m w → okGo P ops T pre rest = true → dWp P (elabD ops rest) K a h → R m w := by
    intro rest pre a h pend blk β listed m w hl A ho hw
    have hpend : pend = [] := by
      cases hp : pend with
      | nil => rfl
      | cons i is =>
        have hi : i ∈ pend := by rw [hp]; simp
        exact absurd hi ((A.done i).1 (hl i (A.lt i (A.sub i hi).1))).2
    cases rest with
    | nil =>
      subst hpend
      exact hR a h β m w hw ⟨A.defers, A.size, fun t v e => A.slots t v e (by simp)⟩ A.rel A.step
    | cons e r =>
      obtain ⟨i, ks⟩ := e
      have O := okGo_spec ho
      exact absurd ((A.done i).1 (hl i O.lt)).1 O.new
  have noready : ∀ (listed : Array Bool), listed.size = ops.size → (∀ i, i < ops.size → listed.getD i false = true) → Region.ready .any ops listed = [] := by
    intro listed hsz hl
    cases hq : Region.ready .any ops listed with
    | nil => rfl
    | cons j js =>
      have : j ∈ Region.ready .any ops listed := by rw [hq]; simp
      obtain ⟨h1, o, h2, _⟩ := mem_ready.1 this
      have hlt : j < ops.size := (Array.getElem?_eq_some_iff.1 h2).1
      have h3 := hl j hlt
      simp [Array.getD_eq_getD_getElem?, Array.getElem?_eq_getElem (show j < listed.size by omega)] at h1 h3
      rw [h1] at h3
      cases h3
  have predsAt : ∀ (listed : Array Bool) i, i ∈ Region.ready .any ops listed → i < ops.size ∧ listed.getD i true = false ∧ ∀ p ∈ preds (opAt ops i), listed.getD p false = true := by
    intro listed i hi
    obtain ⟨h1, o, h2, h3⟩ := mem_ready.1 hi
    have hlt : i < ops.size := (Array.getElem?_eq_some_iff.1 h2).1
    have : o = opAt ops i := by
      have := opAt_some hlt
      rw [h2] at this
      exact Option.some.inj this
    subst this
    refine ⟨hlt, h1, fun p hp => ?_⟩
    unfold preds at hp
    obtain ⟨e, he, hpe⟩ := List.mem_filterMap.1 hp
    split at hpe
    · rename_i hb
      cases hpe
      exact h3 e (by simpa using he) hb
    · cases hpe
  intro fuel
  induction fuel with
  | zero =>
    intro l rest pre a h pend blk β listed m w hlen hl hsz _ A ho hw
    have hl0 : l = [] := List.length_eq_zero_iff.1 (by omega)
    subst hl0
    have hall' : ∀ i, i < ops.size → listed.getD i false = true := fun i hi => by
      cases hq : listed.getD i false with
      | true => rfl
      | false => exact absurd (hl i hi hq) (by simp)
    exact ⟨noready listed hsz hall', fin rest pre a h pend blk β listed m w hall' A ho hw⟩
  | succ fuel ih =>
    intro l rest pre a h pend blk β listed m w hlen hl hsz hpr A ho hw
    refine ⟨fun hnil => ?_, fun i hi => ?_⟩
    · have hall' : ∀ i, i < ops.size → listed.getD i false = true := by
        intro i hi
        cases hq : listed.getD i false with
        | true => rfl
        | false =>
          obtain ⟨j, hj, hns, hp⟩ := okGo_ready (S := fun i => listed.getD i false = true) E [] (by simp) hE ⟨i, hall i hi, by simp [hq]⟩
          have : j ∈ Region.ready .any ops listed := by
            refine mem_ready.2 ⟨?_, opAt ops j, opAt_some hj, fun e he hb => ?_⟩
            · simp [Array.getD_eq_getD_getElem?, Array.getElem?_eq_getElem (show j < listed.size by omega)] at hns ⊢
              exact hns
            · exact hp e.on (List.mem_filterMap.2 ⟨e, by simpa using he, by rw [if_pos hb]⟩)
          rw [hnil] at this
          cases this
      exact fin rest pre a h pend blk β listed m w hall' A ho hw
    · obtain ⟨hlt, hun, hp⟩ := predsAt listed i hi
      have hunf : listed.getD i false = false := by
        simp [Array.getD_eq_getD_getElem?, Array.getElem?_eq_getElem (show i < listed.size by omega)] at hun ⊢
        exact hun
      have hS : ∀ j, (listed.setIfInBounds i true).getD j false = true ↔ listed.getD j false = true ∨ j = i := by
        intro j
        by_cases e : j = i
        · subst e
          simp [Array.getD_eq_getD_getElem?, show j < listed.size by omega]
        · rw [getD_set_ne false (Ne.symm e)]
          simp [e]
      have hl' : ∀ j, j < ops.size → (listed.setIfInBounds i true).getD j false = false → j ∈ l.erase i := by
        intro j hj hf
        have hji : j ≠ i := by
          rintro rfl
          rw [(hS j).2 (.inr rfl)] at hf
          cases hf
        rw [getD_set_ne false (Ne.symm hji)] at hf
        exact (List.mem_erase_of_ne hji).2 (hl j hj hf)
      have hlen' : (l.erase i).length ≤ fuel := by
        rw [List.length_erase_of_mem (hl i hlt hunf)]
        omega
      obtain ⟨rest', pre', a', h', pend', blk', A', ho', hw', hpr', hshape⟩ := A.advance G rest ho hw
      have hin : i ∈ pre' ++ rest'.map (·.1) := by rw [hpr', hpr]; exact hall i hlt
      by_cases hpi : i ∈ pend'
      · refine A'.catch G hpi hp hS fun β2 m2 w2 A2 => ?_
        exact ih _ rest' pre' a' h' _ blk' β2 _ m2 w2 hlen' hl' (by simpa using hsz) (hpr'.trans hpr) A2 ho' hw'
      · have hnpre : i ∉ pre' := fun q => by
          have := (A'.done i).2 ⟨q, hpi⟩
          rw [hunf] at this
          cases this
        rcases List.mem_append.1 hin with h1 | h1
        · exact absurd h1 hnpre
        · rcases hshape with rfl | ⟨k, ks, r, rfl, hk⟩
          · simp at h1
          · have O := okGo_spec ho'
            have hki : i = k := by
              apply Classical.byContradiction
              intro hne
              simp only [List.map_cons, List.mem_cons] at h1
              have h2 : i ∈ r.map (·.1) := h1.resolve_left hne
              -- k lies before i, and acts: so it is listed
              have key : ∀ (r : List (Nat × List Nat)) (pr : List Nat), okGo P ops T pr r = true → k ∈ pr → i ∈ r.map (·.1) → k ∈ tbl T i := by
                intro r
                induction r with
                | nil => intro pr _ _ hi; simp at hi
                | cons e r ihr =>
                  obtain ⟨x, xs⟩ := e
                  intro pr hok hkp hir
                  have O' := okGo_spec hok
                  by_cases hx : i = x
                  · subst hx; exact O'.acts k hkp hk
                  · simp only [List.map_cons, List.mem_cons] at hir
                    exact ihr (pr ++ [x]) O'.rest (by simp [hkp]) (hir.resolve_left hx)
              have h3 := key r (pre' ++ [k]) O.rest (by simp) h2
              have h4 := G.cc i hlt _ A'.closed hp k h3
              exact absurd ((A'.done k).1 h4).1 O.new
            subst hki
            refine A'.act G hr₀ O hk hp hS hw' fun a2 h2 β2 m2 w2 hK2 A2 => ?_
            exact ih _ r (pre' ++ [i]) a2 h2 pend' blk' β2 _ m2 w2 hlen' hl' (by simpa using hsz) (by rw [← hpr, ← hpr']; simp) A2 O.rest hK2

theorem okDraw_glob {E : List (Nat × List Nat)} (hok : okDraw P ops T E = true) : Glob P ops T ∧ okGo P ops T [] E = true ∧ ∀ i, i < ops.size → i ∈ E.map (·.1) := by
  simp only [okDraw, Bool.and_eq_true, List.all_eq_true, List.mem_range, List.contains_eq_mem, decide_eq_true_eq] at hok
  obtain ⟨⟨⟨h1, h2⟩, h3⟩, h4⟩ := hok
  refine ⟨⟨fun i hi => okGo_cc E [] (by simp) h1 i (.inr (h2 i hi)), fun i hi ha d hd => ?_, fun i j hi hj hne ha d hd => ?_, fun i j hi hj hne ha d hd => ?_⟩, h1, h2⟩
  · have := h3 i hi
    simpa [okSelf, ha, hd] using this
  · have := h4 i hi j hj
    simp [okPair, ha, hd, hne] at this
    refine ⟨this.1, fun q => ?_⟩
    rcases this.2 with h | h
    · exact absurd q h
    · exact h
  · have := h4 i hi j hj
    simp [okPair, ha, hd, hne] at this
    rcases this with (h | h) | h
    · exact .inl h
    · exact .inr (.inl h)
    · exact .inr (.inr h)

/-- One order stands for all. -/
theorem awp_draw {id : Nat} {Q : Exit → Frm → Heap → Prop} {a : Frm} {h : Heap} (hm : P.follows .mixedOrders = true) {E : List (Nat × List Nat)} (hok : okDraw P ops T E = true) (hw : dWp P (elabD ops E) (Q .normal) a h) :
    AWp P (.region id ops true) Q a h := by
  obtain ⟨G, hE, hall⟩ := okDraw_glob hok
  intro ro D β m w ha hr ok
  refine region_any hm ?_
  have hr' : Rel P β h { w with drawn := w.drawn + 1 } := hr.same rfl
  have hst : Step β h w β h { w with drawn := w.drawn + 1 } := Step.same rfl rfl rfl rfl
  refine amid_any (β₀ := β) (h₀ := h) (K := Q .normal) G hr' hE hall (fun a' h' β' m' w' hK h1 h2 h3 => ⟨a', h', β', D, h1, h2, .of (hst.trans hr h3), hK⟩) ops.size (List.range ops.size) E [] a h [] (fun _ => none) β _ m _ (by simp) (fun i hi _ => by simpa using hi) (by simp) rfl ?_ hE hw
  refine ⟨fun i => ?_, fun i hi => ?_, by simp, by simp, by simp, ha.defers, ha.size, fun t v e => ?_, fun t v e _ => ha.rel t v e, hr', Step.refl _ _ _, by simp, by simp, by simp⟩
  · simp [Array.getD_eq_getD_getElem?, Array.getElem?_replicate]
    split <;> simp
  · simp [Array.getD_eq_getD_getElem?, Array.getElem?_replicate] at hi
    split at hi <;> simp at hi
  · obtain ⟨mv, e1, _⟩ := ha.rel t v e
    have := (Array.getElem?_eq_some_iff.1 e1).1
    rw [ha.size] at this
    exact this
end
end Go.Sim
