/- Memory: loads, stores, new blocks. -/
import Derived.Test.YtonejeaomblpiaaGreatA5
import Derived.Laws.MakeOwn
set_option linter.unusedSimpArgs false
set_option linter.unusedVariables false
set_option linter.defProp false
namespace Go.Sim
open Go.RowKit

/-! ### Reading -/
def loadT (P : Program) (t : TypeId) (h : Heap) (b i : Nat) : Option Value :=
  match h.get b with
  | some (.cells cs _ _) => partV P t cs i
  | _ => none
def loadV (P : Program) (t : TypeId) (h : Heap) : Value → Option Value
  | .pointer (some ⟨b, i, none⟩) => loadT P t h b i
  | _ => none

theorem ORel.cell {P : Program} {β : Place} {w : World} {m : Nat} {s : Sh} {cs : List Value} {e : TypeId} {rw : Bool} (h : ORel P β w m s (.cells cs e rw)) {i : Nat} {v : Value} (hi : cs[i]? = some v) :
    ∃ mv, w.cell? ⟨m, s.off + i, none⟩ = some mv ∧ VRel β v mv := by
  obtain ⟨mc, fr, te, hg, hle, hr, _⟩ := h
  obtain ⟨mv, e1, r⟩ := hr.get hi
  refine ⟨mv, ?_, r⟩
  rw [cell_of_row w m (s.off + i) mc te fr hg]
  have hlt : i < cs.length := (List.getElem?_eq_some_iff.1 hi).1
  rw [List.getElem?_take, if_pos hlt, List.getElem?_drop] at e1
  simpa using e1

theorem drop_take_cells {w : World} {m : Nat} {mc : Array Value} {e : TypeId} {fr : Nat × Nat} (hg : w.heap[m]? = some (.cells mc e fr)) (p n : Nat) :
    ∀ j v, ((mc.toList.drop p).take n)[j]? = some v → w.cell? ((⟨m, p, none⟩ : Addr).add j) = some v := by
  intro j v hv
  rw [Addr.add_lit, cell_of_row w m (p + j) mc e fr hg]
  rw [List.getElem?_take] at hv
  split at hv
  · rw [List.getElem?_drop] at hv; simpa using hv
  · cases hv

theorem loadV_sound {P : Program} {β : Place} {h : Heap} {w : World} {t : TypeId} {p mp v : Value} (hr : Rel P β h w) (hp : VRel β p mp) (hl : loadV P t h p = some v) :
    ∃ mv, (Instr.loadAt t mp).run P w = .ok mv w ∧ VRel β v mv := by
  unfold loadV at hl
  split at hl
  · rename_i b i
    obtain ⟨m, s, hb, rfl⟩ := hp.ptr_inv
    unfold loadT at hl
    split at hl
    · rename_i cs e rw hg
      have ho := hr.obj b m s _ hb hg
      unfold partV at hl
      cases hu : P.underlying t with
      | none => simp [hu] at hl
      | some D =>
        simp only [hu] at hl
        have hag := run_isAgg hu w
        by_cases ha : aggT P t = true
        · simp only [ha, if_true] at hl
          cases hs : szT P t with
          | none => simp [hs] at hl
          | some n =>
            simp only [hs] at hl
            split at hl
            · rename_i hle
              cases hl
              obtain ⟨mc, fr, te, hmg, hsz, hrs, _⟩ := ho
              have hlen : ((mc.toList.drop (s.off + i)).take n).length = n := by simp; omega
              have hload := run_loadCells_list (P := P) w ⟨m, s.off + i, none⟩ ((mc.toList.drop (s.off + i)).take n) (drop_take_cells hmg (s.off + i) n)
              rw [hlen] at hload
              refine ⟨_, ?_, VRel.agg_iff.2 ⟨((mc.toList.drop (s.off + i)).take n).toArray, rfl, ?_⟩⟩
              · simp only [Instr.loadAt, Instr.sureAddr, Sem.run_bind, Sem.run_pure, Result.andThen_ok, loadVar, hag, ha, if_true, run_sizeT hs w, hload]
              · have h1 := (hrs.drop i).take n
                have h2 : ((List.take cs.length (List.drop s.off mc.toList)).drop i).take n = (mc.toList.drop (s.off + i)).take n := by
                  rw [List.drop_take, List.take_take, List.drop_drop]
                  congr 1
                  omega
                rw [h2] at h1
                simpa using h1
            · cases hl
        · simp only [ha] at hl
          obtain ⟨mv, e1, r⟩ := ho.cell hl
          refine ⟨mv, ?_, r⟩
          have ha' : aggT P t = false := by simpa using ha
          simp only [Instr.loadAt, Instr.sureAddr, Sem.run_bind, Sem.run_pure, Result.andThen_ok, loadVar, hag, ha', Bool.false_eq_true, if_false, run_load, e1]
    · cases hl
  · cases hl

/-! ### Writing -/
def setMany : List Value → Nat → List Value → List Value
  | cs, _, [] => cs
  | cs, i, v :: r => setMany (cs.set i v) (i + 1) r
@[simp] theorem length_setMany : ∀ (vs cs : List Value) (i : Nat), (setMany cs i vs).length = cs.length
  | [], _, _ => rfl
  | v :: r, cs, i => by rw [setMany, length_setMany r]; simp

def storeV (P : Program) (t : TypeId) (h : Heap) (p x : Value) : Option Heap :=
  match p with
  | .pointer (some ⟨b, i, none⟩) =>
    match h.get b with
    | some (.cells cs e true) =>
      if szT P t = some x.cells.size ∧ i + x.cells.size ≤ cs.length ∧ x.cells.toList.all Value.oneCell' = true then
        some (h.set b (.cells (setMany cs i x.cells.toList) e true))
      else none
    | _ => none
  | _ => none

theorem heap_setCell_at {w : World} {m o : Nat} {mc : Array Value} {e : TypeId} {fr : Nat × Nat} (hg : w.heap[m]? = some (.cells mc e fr)) (v : Value) :
    (w.setCell ⟨m, o, none⟩ v).heap[m]? = some (.cells (mc.setIfInBounds o v) e fr) := by
  have hlt : m < w.heap.size := (Array.getElem?_eq_some_iff.1 hg).1
  have hv : w.heap[m] = .cells mc e fr := (Array.getElem?_eq_some_iff.1 hg).2
  unfold World.setCell
  rw [Array.getElem?_eq_getElem (by simpa using hlt), Array.getElem_modify]
  simp [hv]

/-- A live, writable block is given new contents. -/
theorem Rel.update {P : Program} {β : Place} {h : Heap} {w w' : World} {b m : Nat} {s : Sh} {o o' : AObj} (hr : Rel P β h w) (hb : β b = some (m, s)) (hg : h.get b = some o) (hrw : o.rw = true) (hrw' : o'.rw = true)
    (hsz : w'.heap.size = w.heap.size) (hother : ∀ k, k ≠ m → w'.heap[k]? = w.heap[k]?) (hos : w'.os = w.os) (htp : w'.tape = w.tape) (hout : w'.output = w.output) (ho : ORel P β w' m s o') (hlp : o.isLoop = true → o'.isLoop = true := by exact id) :
    Rel P β (h.set b o') w' ∧ Step β h w β (h.set b o') w' := by
  constructor
  · refine ⟨fun c m' s' e => ?_, fun c m' s' q e g => ?_, fun c c' m' s1 s2 q q' e e' g g' hq => ?_⟩
    · obtain ⟨h1, h2⟩ := hr.dom c m' s' e
      exact ⟨h1, by omega⟩
    · by_cases hcb : c = b
      · subst hcb
        rw [Heap.get_set_self hg] at g
        cases g
        rw [hb] at e
        cases e
        exact ho
      · rw [Heap.get_set_ne h o' hcb] at g
        have hne : m' ≠ m := by
          rintro rfl
          exact hcb (hr.inj b c m' s s' o q hb e hg g hrw).symm
        have hq := hr.obj c m' s' q e g
        cases q with
        | cells cs e2 r2 =>
          obtain ⟨mc, fr, te, h1, h2⟩ := hq
          exact ⟨mc, fr, te, by rw [hother m' hne]; exact h1, h2⟩
        | map es ck =>
          obtain ⟨mes, h1, h2⟩ := hq
          exact ⟨mes, by rw [hother m' hne]; exact h1, h2⟩
        | iter =>
          obtain ⟨h0, mes, h1, h2⟩ := hq
          exact ⟨h0, mes, by rw [hother m' hne]; exact h1, h2⟩
        | striter => exact ⟨hq.1, (hother m' hne).trans hq.2⟩
        | chan =>
          obtain ⟨h0, mb, sn, rc, h1, h2⟩ := hq
          exact ⟨h0, mb, sn, rc, (hother m' hne).trans h1, h2⟩
        | loop =>
          obtain ⟨h0, fn, tm, d, h1, h2⟩ := hq
          exact ⟨h0, fn, tm, d, by rw [hother m' hne]; exact h1, h2⟩
    · have live : ∀ c q, (h.set b o').get c = some q → ∃ q0, h.get c = some q0 ∧ q0.rw = q.rw := by
        intro c q g
        by_cases hcb : c = b
        · subst hcb
          rw [Heap.get_set_self hg] at g
          cases g
          exact ⟨o, hg, hrw.trans hrw'.symm⟩
        · rw [Heap.get_set_ne h o' hcb] at g
          exact ⟨q, g, rfl⟩
      obtain ⟨q0, g0, r0⟩ := live c q g
      obtain ⟨q1, g1, r1⟩ := live c' q' g'
      exact hr.inj c c' m' s1 s2 q0 q1 e e' g0 g1 (r0.trans hq)
  · refine ⟨fun _ _ e => e, fun c hc e => ⟨e, ?_⟩, Nat.le_refl _, fun c q hc g => ?_, fun _ _ _ e e' => by simp [e] at e', hos, htp, hout, by omega, fun k hk hn => ?_, fun k r e => ?_⟩
    · rw [Heap.get_set_ne h o' (by rintro rfl; rw [hb] at e; cases e)]
    · by_cases hcb : c = b
      · subst hcb
        rw [Heap.get_set_self hg] at g
        cases g
        exact ⟨o, hg, hrw.trans hrw'.symm⟩
      · rw [Heap.get_set_ne h o' hcb] at g
        exact ⟨q, g, rfl⟩
    · refine hother k ?_
      rintro rfl
      exact hn ⟨b, s, o, hb, hg, hrw⟩
    · by_cases hk : k = m
      · subst hk
        have hl : o.isLoop = true := by
          have := hr.obj b k s o hb hg
          cases o with
          | cells => obtain ⟨_, _, _, h1, _⟩ := this; rw [e] at h1; cases h1
          | map => obtain ⟨_, h1, _⟩ := this; rw [e] at h1; cases h1
          | iter => obtain ⟨_, _, h1, _⟩ := this; rw [e] at h1; cases h1
          | striter => obtain ⟨_, h1⟩ := this; rw [e] at h1; cases h1
          | chan => obtain ⟨_, _, _, _, h1, _⟩ := this; rw [e] at h1; cases h1
          | loop => rfl
        have hl' := hlp hl
        cases o' with
        | loop => obtain ⟨_, _, _, _, h1, _⟩ := ho; exact ⟨_, h1⟩
        | cells => cases hl'
        | map => cases hl'
        | iter => cases hl'
        | striter => cases hl'
        | chan => cases hl'
      · exact ⟨r, (hother k hk).trans e⟩

theorem setMany_eq : ∀ (vs cs : List Value) (i : Nat), i + vs.length ≤ cs.length → setMany cs i vs = cs.take i ++ (vs ++ cs.drop (i + vs.length))
  | [], cs, i, h => by simp [setMany]
  | v :: r, cs, i, h => by
    rw [setMany, setMany_eq r _ _ (by simp at h ⊢; omega)]
    simp only [List.length_cons] at h
    rw [List.take_set, List.drop_set, if_pos (by omega)]
    rw [show i + 1 + r.length = i + (r.length + 1) by omega]
    rw [List.set_eq_take_append_cons_drop]
    rw [if_pos (by simp; omega)]
    simp [List.take_take, List.drop_take]
    
theorem run_storeCells_rel {P : Program} {β : Place} {b m : Nat} {s : Sh} {e : TypeId} : ∀ {vs mvs : List Value}, VRels β vs mvs → ∀ (i j : Nat) {h : Heap} {w : World} {cs : List Value}, Rel P β h w → β b = some (m, s) → h.get b = some (.cells cs e true) →
    i + j + vs.length ≤ cs.length → vs.all Value.oneCell' = true →
    ∃ w', (storeCells ⟨m, s.off + i, none⟩ mvs j).run P w = .ok () w' ∧ Rel P β (h.set b (.cells (setMany cs (i + j) vs) e true)) w' ∧ Step β h w β (h.set b (.cells (setMany cs (i + j) vs) e true)) w' := by
  intro vs mvs hvs
  induction hvs with
  | nil =>
    intro i j h w cs hr hb hg hle hone
    refine ⟨w, by simp [storeCells], ?_⟩
    simp only [setMany]
    have ho := hr.obj b m s _ hb hg
    exact hr.update hb hg rfl rfl rfl (fun _ _ => rfl) rfl rfl rfl ho
  | @cons v mv vs mvs hv t ih =>
    intro i j h w cs hr hb hg hle hone
    simp only [List.all_cons, Bool.and_eq_true, List.length_cons] at hone hle
    obtain ⟨mc, fr, te, hmg, hsz, hrs, hrw⟩ := hr.obj b m s _ hb hg
    obtain ⟨⟨hfz, hlh⟩, hte, hT, hZ⟩ := hrw rfl
    subst te
    have hcell : w.cell? ⟨m, s.off + (i + j), none⟩ = some (mc[s.off + (i + j)]'(by omega)) := by
      rw [cell_of_row w m _ mc e fr hmg]
      exact Array.getElem?_eq_getElem (by omega)
    have hfrz : w.frozen? ⟨m, s.off + (i + j), none⟩ = false := by
      have := hfz (s.off + (i + j)) (by omega)
      simp only [World.frozen?, hmg]
      simpa using this
    have hrun : (store ⟨m, s.off + (i + j), none⟩ mv .plain).run P w = .ok () (w.setCell ⟨m, s.off + (i + j), none⟩ mv) := by
      rw [run_store P w _ mv .plain (by rw [hv.oneCell]; exact hone.1), hcell]
      simp [hfrz]
    have ho' : ORel P β (w.setCell ⟨m, s.off + (i + j), none⟩ mv) m s (.cells (cs.set (i + j) v) e true) := by
      refine ⟨mc.setIfInBounds (s.off + (i + j)) mv, fr, _, heap_setCell_at hmg mv, ?_, ?_, fun _ => ⟨⟨fun k hk => hfz k (by simpa using hk), hlh⟩, rfl, by simpa using hT, hZ⟩⟩
      · simpa using hsz
      · have := hrs.set hv (i + j)
        have e2 : (List.take (cs.set (i + j) v).length (List.drop s.off (mc.setIfInBounds (s.off + (i + j)) mv).toList)) = (List.take cs.length (List.drop s.off mc.toList)).set (i + j) mv := by
          rw [List.length_set, Array.toList_setIfInBounds, List.drop_set, if_neg (by omega), List.take_set]
          congr 1
          omega
        rw [e2]
        exact this
    obtain ⟨hr1, st1⟩ := hr.update (w' := w.setCell ⟨m, s.off + (i + j), none⟩ mv) (o' := .cells (cs.set (i + j) v) e true) hb hg rfl rfl (by simp) (fun k hk => heap_setCell_other w _ k mv hk) rfl rfl rfl ho'
    obtain ⟨w', e1, hr2, st2⟩ := ih i (j + 1) hr1 hb (Heap.get_set_self hg) (by simp; omega) hone.2
    have hset : (h.set b (.cells (cs.set (i + j) v) e true)).set b (.cells (setMany (cs.set (i + j) v) (i + (j + 1)) vs) e true) = h.set b (.cells (setMany cs (i + j) (v :: vs)) e true) := by
      rw [setMany, show i + (j + 1) = i + j + 1 by omega]
      simp only [Heap.set, Heap.mk.injEq, true_and]
      funext c
      by_cases hc : c = b
      · subst hc; simp [hg]
      · simp [hc]
    rw [hset] at hr2 st2
    refine ⟨w', ?_, hr2, st1.trans hr st2⟩
    simp only [storeCells, Sem.run_bind, Addr.add_lit, Nat.add_assoc, hrun, Result.andThen_ok]
    exact e1

theorem storeV_sound {P : Program} {β : Place} {h h' : Heap} {w : World} {t : TypeId} {p mp x mx : Value} (hr : Rel P β h w) (hp : VRel β p mp) (hx : VRel β x mx) (hs : storeV P t h p x = some h') :
    ∃ w', (Instr.storeAt t mp mx).run P w = .ok () w' ∧ Rel P β h' w' ∧ Step β h w β h' w' := by
  unfold storeV at hs
  split at hs
  · rename_i b i
    obtain ⟨m, s, hb, rfl⟩ := hp.ptr_inv
    split at hs
    · rename_i cs e hg
      split at hs
      · rename_i hc
        cases hs
        obtain ⟨h1, h2, h3⟩ := hc
        obtain ⟨w', e1, hr', st⟩ := run_storeCells_rel (P := P) hx.cells i 0 hr hb hg (by simpa using h2) h3
        simp only [Nat.add_zero] at hr' st
        refine ⟨w', ?_, hr', st⟩
        have hsz : mx.cells.size = x.cells.size := by have := hx.cells.length; simpa using this.symm
        simp only [Instr.storeAt, Instr.sureAddr, Sem.run_bind, Sem.run_pure, Result.andThen_ok, storeVar, run_sizeT h1 w, hsz]
        simpa using e1
      · cases hs
    · cases hs
  · cases hs

/-! ### New blocks -/
/-- The place of one block more. -/
def Place.add (β : Place) (b m : Nat) (s : Sh) : Place := fun c => if c = b then some (m, s) else β c
theorem Place.add_same (β : Place) (b m : Nat) (s : Sh) : β.add b m s b = some (m, s) := by simp [Place.add]
theorem Place.add_ne (β : Place) {b c : Nat} (m : Nat) (s : Sh) (h : c ≠ b) : β.add b m s c = β c := by simp [Place.add, h]
theorem Place.add_mono {β : Place} {b : Nat} (m : Nat) (s : Sh) (hb : β b = none) : ∀ c x, β c = some x → β.add b m s c = some x := by
  intro c x e
  rw [Place.add_ne _ _ _ (by rintro rfl; rw [hb] at e; cases e)]
  exact e

theorem VRels.mono_iff {β β' : Place} (hβ : ∀ b x, β b = some x → β' b = some x) {l l' : List Value} (h : VRels β l l') : VRels β' l l' := h.mono hβ
theorem ERels.mono {β β' : Place} (hβ : ∀ b x, β b = some x → β' b = some x) {l l' : List MapEntry} (h : ERels β l l') : ERels β' l l' := by
  induction h with
  | nil => exact .nil
  | cons hk h _ ih => exact .cons (hk.mono hβ) (h.mono hβ) ih
theorem ORel.mono {P : Program} {β β' : Place} (hβ : ∀ b x, β b = some x → β' b = some x) {w w' : World} {m : Nat} {s : Sh} (hw : w'.heap[m]? = w.heap[m]?) {o : AObj} (h : ORel P β w m s o) : ORel P β' w' m s o := by
  cases o with
  | cells cs e rw =>
    obtain ⟨mc, fr, te, h1, h3, h4, h5⟩ := h
    exact ⟨mc, fr, te, by rw [hw]; exact h1, h3, h4.mono hβ, h5⟩
  | map es ck =>
    obtain ⟨mes, h1, h2⟩ := h
    exact ⟨mes, by rw [hw]; exact h1, h2.mono hβ⟩
  | iter =>
    obtain ⟨h0, mb, h1, h2⟩ := h
    exact ⟨h0, mb, by rw [hw]; exact h1, h2.mono hβ⟩
  | striter => exact ⟨h.1, hw.trans h.2⟩
  | chan =>
    obtain ⟨h0, mb, sn, rc, h1, h2⟩ := h
    exact ⟨h0, mb, sn, rc, hw.trans h1, h2.mono hβ⟩
  | loop =>
    obtain ⟨h0, fn, tm, d, h1, h2, h3⟩ := h
    exact ⟨h0, fn, tm, d, hw.trans h1, h2, fun t v e => let ⟨mv, e1, r⟩ := h3 t v e; ⟨mv, e1, r.mono hβ⟩⟩

theorem Rel.noNext {P : Program} {β : Place} {h : Heap} {w : World} (hr : Rel P β h w) : β h.next = none := by
  cases e : β h.next with
  | none => rfl
  | some x => have := (hr.dom h.next x.1 x.2 e).1; omega

/-- A new abstract block that has no place yet. -/
theorem Rel.push {P : Program} {β : Place} {h : Heap} {w : World} (hr : Rel P β h w) (o : AObj) : Rel P β (h.push o) w := by
  have old : ∀ c x, β c = some x → (h.push o).get c = h.get c := fun c x e => Heap.get_push_ne h o (by have := (hr.dom c x.1 x.2 e).1; omega)
  refine ⟨fun c m s e => ?_, fun c m s q e g => ?_, fun c c' m s1 s2 q q' e e' g g' hq => ?_⟩
  · obtain ⟨h1, h2⟩ := hr.dom c m s e
    exact ⟨by simp; omega, h2⟩
  · rw [old c _ e] at g
    exact hr.obj c m s q e g
  · rw [old c _ e] at g
    rw [old c' _ e'] at g'
    exact hr.inj c c' m s1 s2 q q' e e' g g' hq

/-- A block gets its place: the machine has made it. -/
theorem Rel.mapped {P : Program} {β : Place} {h : Heap} {w w' : World} {b : Nat} {s : Sh} {o : AObj} {mo : Obj} (hr : Rel P β h w) (hb : β b = none) (hlt : b < h.next) (hg : h.get b = some o)
    (hh : w'.heap = w.heap.push mo) (ho : ORel P (β.add b w.heap.size s) w' w.heap.size s o) : Rel P (β.add b w.heap.size s) h w' := by
  have hmono := Place.add_mono w.heap.size s hb
  have hold : ∀ k, k < w.heap.size → w'.heap[k]? = w.heap[k]? := fun k hk => by rw [hh, Array.getElem?_push, if_neg (by omega)]
  refine ⟨fun c m s' e => ?_, fun c m s' q e g => ?_, fun c c' m s1 s2 q q' e e' g g' hq => ?_⟩
  · by_cases hc : c = b
    · subst hc
      rw [Place.add_same] at e
      cases e
      exact ⟨hlt, by rw [hh]; simp⟩
    · rw [Place.add_ne _ _ _ hc] at e
      obtain ⟨h1, h2⟩ := hr.dom c m s' e
      exact ⟨h1, by rw [hh]; simp; omega⟩
  · by_cases hc : c = b
    · subst hc
      rw [Place.add_same] at e
      cases e
      rw [hg] at g
      cases g
      exact ho
    · rw [Place.add_ne _ _ _ hc] at e
      exact (hr.obj c m s' q e g).mono hmono (hold m (hr.dom c m s' e).2)
  · by_cases hc : c = b
    · by_cases hc' : c' = b
      · rw [hc, hc']
      · subst hc
        rw [Place.add_same] at e
        cases e
        rw [Place.add_ne _ _ _ hc'] at e'
        have := (hr.dom c' _ _ e').2
        omega
    · rw [Place.add_ne _ _ _ hc] at e
      by_cases hc' : c' = b
      · subst hc'
        rw [Place.add_same] at e'
        cases e'
        have := (hr.dom c _ _ e).2
        omega
      · rw [Place.add_ne _ _ _ hc'] at e'
        exact hr.inj c c' m s1 s2 q q' e e' g g' hq

/-- Both at once. -/
theorem Rel.alloc {P : Program} {β : Place} {h : Heap} {w w' : World} {s : Sh} {o : AObj} {mo : Obj} (hr : Rel P β h w) (hh : w'.heap = w.heap.push mo) (hos : w'.os = w.os) (htp : w'.tape = w.tape) (hout : w'.output = w.output)
    (ho : ORel P (β.add h.next w.heap.size s) w' w.heap.size s o) :
    Rel P (β.add h.next w.heap.size s) (h.push o) w' ∧ Step β h w (β.add h.next w.heap.size s) (h.push o) w' := by
  have hn := hr.noNext
  refine ⟨(hr.push o).mapped hn (by simp) (Heap.get_push_self h o) hh ho, ?_⟩
  refine ⟨Place.add_mono _ _ hn, fun c hc e => ⟨by rw [Place.add_ne _ _ _ (by omega)]; exact e, Heap.get_push_ne h o (by omega)⟩, by simp, fun c q hc g => ?_, fun c m s' e e' => ?_, hos, htp, hout, by rw [hh]; simp, fun k hk _ => by rw [hh, Array.getElem?_push, if_neg (by omega)], fun k r e => ⟨r, by rw [hh, Array.getElem?_push, if_neg (by have := (Array.getElem?_eq_some_iff.1 e).1; omega)]; exact e⟩⟩
  · rw [Heap.get_push_ne h o (by omega)] at g
    exact ⟨q, g, rfl⟩
  · by_cases hc : c = h.next
    · subst hc
      rw [Place.add_same] at e'
      cases e'
      exact .inl (Nat.le_refl _)
    · rw [Place.add_ne _ _ _ hc, e] at e'
      cases e'

/-- The heap is as it was. -/
theorem Rel.same {P : Program} {β : Place} {h : Heap} {w w' : World} (hr : Rel P β h w) (hh : w'.heap = w.heap) : Rel P β h w' :=
  ⟨fun b m s e => by rw [hh]; exact hr.dom b m s e, fun b m s o e g => (hr.obj b m s o e g).mono (fun _ _ e => e) (by rw [hh]), hr.inj⟩
theorem Step.same {β : Place} {h : Heap} {w w' : World} (hh : w'.heap = w.heap) (hos : w'.os = w.os) (htp : w'.tape = w.tape) (hout : w'.output = w.output) : Step β h w β h w' :=
  ⟨fun _ _ e => e, fun _ _ e => ⟨e, rfl⟩, Nat.le_refl _, fun _ o' _ e => ⟨o', e, rfl⟩, fun _ _ _ e e' => by simp [e] at e', hos, htp, hout, by rw [hh]; exact Nat.le_refl _, fun _ _ _ => by rw [hh], fun _ r e => ⟨r, by rw [hh]; exact e⟩⟩
end Go.Sim
