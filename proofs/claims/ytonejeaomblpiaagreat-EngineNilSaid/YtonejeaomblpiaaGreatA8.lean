/- Append. -/
import Derived.Test.YtonejeaomblpiaaGreatA7
set_option linter.unusedSimpArgs false
set_option linter.unusedVariables false
set_option linter.defProp false
namespace Go.Sim
open Go.RowKit

theorem run_storeCells_m {P : Program} {m p : Nat} {e : TypeId} {fr : Nat × Nat} : ∀ (vs : List Value) (j : Nat) {w : World} {mc : Array Value}, w.heap[m]? = some (.cells mc e fr) → p + j + vs.length ≤ mc.size → vs.all Value.oneCell' = true →
    (∀ i, i < mc.size → ¬ (fr.1 ≤ i ∧ i < fr.2)) →
    ∃ w' mc', (storeCells ⟨m, p, none⟩ vs j).run P w = .ok () w' ∧ w'.heap[m]? = some (.cells mc' e fr) ∧ mc'.toList = setMany mc.toList (p + j) vs ∧ mc'.size = mc.size ∧ (∀ k, k ≠ m → w'.heap[k]? = w.heap[k]?) ∧
      w'.heap.size = w.heap.size ∧ w'.os = w.os ∧ w'.tape = w.tape ∧ w'.output = w.output
  | [], j, w, mc, hg, _, _, _ => ⟨w, mc, by simp [storeCells], hg, rfl, rfl, fun _ _ => rfl, rfl, rfl, rfl, rfl⟩
  | v :: vs, j, w, mc, hg, hle, hone, hfz => by
    simp only [List.all_cons, Bool.and_eq_true, List.length_cons] at hone hle
    have hcell : w.cell? ⟨m, p + j, none⟩ = some (mc[p + j]'(by omega)) := by
      rw [cell_of_row w m _ mc e fr hg]
      exact Array.getElem?_eq_getElem (by omega)
    have hfrz : w.frozen? ⟨m, p + j, none⟩ = false := by
      have := hfz (p + j) (by omega)
      simp only [World.frozen?, hg]
      simpa using this
    have hrun : (store ⟨m, p + j, none⟩ v .plain).run P w = .ok () (w.setCell ⟨m, p + j, none⟩ v) := by
      rw [run_store P w _ v .plain hone.1, hcell]
      simp [hfrz]
    obtain ⟨w', mc', e1, e2, e3, e4, e5, e6, e7, e8, e9⟩ := run_storeCells_m (P := P) (m := m) (p := p) (e := e) (fr := fr) vs (j + 1) (w := w.setCell ⟨m, p + j, none⟩ v) (mc := mc.setIfInBounds (p + j) v) (heap_setCell_at hg v) (by simp; omega) hone.2 (by simpa using hfz)
    refine ⟨w', mc', ?_, e2, ?_, by simpa using e4, fun k hk => (e5 k hk).trans (heap_setCell_other w _ k v hk), by simpa using e6, e7, e8, e9⟩
    · simp only [storeCells, Sem.run_bind, Addr.add_lit, hrun, Result.andThen_ok]
      exact e1
    · rw [e3, setMany]
      simp [Nat.add_assoc]

/-- A block dies, and a new abstract block takes over (part of) its place. -/
theorem Rel.moved {P : Program} {β : Place} {h : Heap} {w w' : World} {b m : Nat} {s s' : Sh} {o o' : AObj} (hr : Rel P β h w) (hb : β b = some (m, s)) (hg : h.get b = some o) (hrw : o.rw = true)
    (hsz : w'.heap.size = w.heap.size) (hother : ∀ k, k ≠ m → w'.heap[k]? = w.heap[k]?) (hos : w'.os = w.os) (htp : w'.tape = w.tape) (hout : w'.output = w.output) (ho : ORel P (β.add h.next m s') w' m s' o') (hlp : o.isLoop = false := by rfl) :
    Rel P (β.add h.next m s') ((h.kill b).push o') w' ∧ Step β h w (β.add h.next m s') ((h.kill b).push o') w' := by
  have hn := hr.noNext
  have hmono := Place.add_mono m s' hn
  have hbn : b < h.next := (hr.dom b m s hb).1
  have hmw : m < w.heap.size := (hr.dom b m s hb).2
  have old : ∀ c, c ≠ h.next → c ≠ b → ((h.kill b).push o').get c = h.get c := fun c h1 h2 => by
    rw [Heap.get_push_ne _ _ (by simpa using h1), Heap.get_kill_ne _ h2]
  have dead : ((h.kill b).push o').get b = none := by
    rw [Heap.get_push_ne _ _ (by simp; omega), Heap.get_kill, if_pos rfl]
  have new : ((h.kill b).push o').get h.next = some o' := Heap.get_push_self (h.kill b) o'
  have other : ∀ c m1 s1 q, c ≠ h.next → β.add h.next m s' c = some (m1, s1) → ((h.kill b).push o').get c = some q → c ≠ b ∧ β c = some (m1, s1) ∧ h.get c = some q ∧ m1 ≠ m := by
    intro c m1 s1 q hc e g
    rw [Place.add_ne _ _ _ hc] at e
    have hcb : c ≠ b := by rintro rfl; rw [dead] at g; cases g
    rw [old c hc hcb] at g
    exact ⟨hcb, e, g, by rintro rfl; exact hcb (hr.inj b c m1 s s1 o q hb e hg g hrw).symm⟩
  constructor
  · refine ⟨fun c m1 s1 e => ?_, fun c m1 s1 q e g => ?_, fun c c' m1 s1 s2 q q' e e' g g' hq => ?_⟩
    · by_cases hc : c = h.next
      · subst hc
        rw [Place.add_same] at e
        cases e
        exact ⟨by simp, by omega⟩
      · rw [Place.add_ne _ _ _ hc] at e
        obtain ⟨h1, h2⟩ := hr.dom c m1 s1 e
        exact ⟨by simp; omega, by omega⟩
    · by_cases hc : c = h.next
      · subst hc
        rw [Place.add_same] at e
        cases e
        rw [new] at g
        cases g
        exact ho
      · obtain ⟨_, e1, g1, hne⟩ := other c m1 s1 q hc e g
        exact (hr.obj c m1 s1 q e1 g1).mono hmono (hother m1 hne)
    · by_cases hc : c = h.next
      · by_cases hc' : c' = h.next
        · rw [hc, hc']
        · obtain ⟨_, _, _, hne⟩ := other c' m1 s2 q' hc' e' g'
          subst hc
          rw [Place.add_same] at e
          cases e
          exact absurd rfl hne
      · obtain ⟨_, e1, g1, hne⟩ := other c m1 s1 q hc e g
        by_cases hc' : c' = h.next
        · subst hc'
          rw [Place.add_same] at e'
          cases e'
          exact absurd rfl hne
        · obtain ⟨_, e2, g2, _⟩ := other c' m1 s2 q' hc' e' g'
          exact hr.inj c c' m1 s1 s2 q q' e1 e2 g1 g2 hq
  · refine ⟨hmono, fun c hc e => ⟨by rw [Place.add_ne _ _ _ (by omega)]; exact e, old c (by omega) (by rintro rfl; rw [hb] at e; cases e)⟩, by simp, fun c q hc g => ?_, fun c m1 s1 e e' => ?_, hos, htp, hout, by omega, fun k hk hnr => hother k ?_, fun k r e => ⟨r, (hother k ?_).trans e⟩⟩
    · by_cases hcb : c = b
      · subst hcb; rw [dead] at g; cases g
      · rw [old c (by omega) hcb] at g
        exact ⟨q, g, rfl⟩
    · by_cases hc : c = h.next
      · subst hc
        rw [Place.add_same] at e'
        cases e'
        exact .inr ⟨b, s, o, hb, hg, hrw⟩
      · rw [Place.add_ne _ _ _ hc, e] at e'
        cases e'
    · rintro rfl
      exact hnr ⟨b, s, o, hb, hg, hrw⟩
    · rintro rfl
      have := hr.obj b k s o hb hg
      cases o with
      | cells => obtain ⟨_, _, _, h1, _⟩ := this; rw [e] at h1; cases h1
      | map => obtain ⟨_, h1, _⟩ := this; rw [e] at h1; cases h1
      | iter => obtain ⟨_, _, h1, _⟩ := this; rw [e] at h1; cases h1
      | striter => obtain ⟨_, h1⟩ := this; rw [e] at h1; cases h1
      | chan => obtain ⟨_, _, _, _, h1, _⟩ := this; rw [e] at h1; cases h1
      | loop => cases hlp

/-- A block dies in the abstract heap alone. -/
theorem Rel.kill {P : Program} {β : Place} {h : Heap} {w : World} (hr : Rel P β h w) (b m : Nat) (s : Sh) (hb : β b = some (m, s)) : Rel P β (h.kill b) w ∧ Step β h w β (h.kill b) w := by
  have live : ∀ c q, (h.kill b).get c = some q → h.get c = some q := by
    intro c q g
    rw [Heap.get_kill] at g
    split at g
    · cases g
    · exact g
  refine ⟨⟨hr.dom, fun c m s q e g => hr.obj c m s q e (live c q g), fun c c' m s1 s2 q q' e e' g g' => hr.inj c c' m s1 s2 q q' e e' (live c q g) (live c' q' g')⟩, ?_⟩
  exact ⟨fun _ _ e => e, fun c hc e => ⟨e, Heap.get_kill_ne h (by rintro rfl; rw [hb] at e; cases e)⟩, Nat.le_refl _, fun c q hc g => ⟨q, live c q g, rfl⟩, fun _ _ _ e e' => by simp [e] at e', rfl, rfl, rfl, Nat.le_refl _, fun _ _ _ => rfl, fun _ r e => ⟨r, e⟩⟩

/-- What append takes its elements from: how many, and their cells. -/
def srcV (P : Program) (size : Nat) (t : TypeId) (h : Heap) (x : Value) : Option (Nat × List Value) :=
  match P.underlying t, x with
  | some .string, .string s => if size = 1 then some (s.size, bytesOf s) else none
  | some (.slice _), .slice none 0 0 => some (0, [])
  | some (.slice _), .slice (some ⟨b, o, none⟩) n c =>
    if n = 0 then some (0, []) else
    match h.get b with
    | some (.cells cs _ _) => if o + n * size ≤ cs.length ∧ ((cs.drop o).take (n * size)).all Value.oneCell' = true then some (n, (cs.drop o).take (n * size)) else none
    | _ => none
  | _, _ => none

def appendV (P : Program) (ts : List TypeId) (h : Heap) (s x : Value) : Option (Value × Heap) :=
  match ts with
  | [t, t2] =>
    match P.underlying t with
    | some (.slice e) =>
      match P.info? e, zeroCellsT P e with
      | some i, some _ =>
        match srcV P i.size t2 h x with
        | some (m, news) =>
          match s with
          | .slice none 0 0 =>
            if m = 0 then some (s, h) else
            if m ≤ maxLen ∧ m * i.bytes ≤ 140737488355328 then some (sliceOfNew m unk h.next, h.push (.cells news e true)) else none
          | .slice (some ⟨b, o, none⟩) n c =>
            if m = 0 then some (s, h) else
            if c = dud ∨ c = noapp then none else
            if n + m ≤ maxLen ∧ (n + m) * i.bytes ≤ 140737488355328 then
              match h.get b with
              | some (.cells cs e' rw) =>
                if o + n * i.size ≤ cs.length ∧ szT P e' = some i.size ∧ e' = e then
                  if c ≠ unk ∧ c < n + m then some (sliceOfNew (n + m) unk h.next, h.push (.cells ((cs.drop o).take (n * i.size) ++ news) e true))
                  else if rw then some (sliceOfNew (n + m) unk h.next, (h.kill b).push (.cells ((cs.drop o).take (n * i.size) ++ news) e true)) else none
                else none
              | _ => none
            else none
          | _ => none
        | none => none
      | _, _ => none
    | _ => none
  | _ => none

theorem srcV_sound {P : Program} {β : Place} {h : Heap} {w : World} {t : TypeId} {x mx : Value} {size m : Nat} {news : List Value} (hr : Rel P β h w) (hx : VRel β x mx) (hs : srcV P size t h x = some (m, news)) :
    ∃ mnews : List Value, VRels β news mnews ∧ news.length = m * size ∧ news.all Value.oneCell' = true ∧ (∀ w : World, (Builtin.lenOf mx).run P w = .ok m w) ∧ (P.underlying t = some .string ∨ ∃ e2, P.underlying t = some (.slice e2)) ∧
      (∀ w' : World, w'.heap = w.heap → (Builtin.firstCells size m mx).run P w' = .ok mnews.toArray w') := by
  unfold srcV at hs
  split at hs
  · rename_i s hu
    cases hx
    split at hs
    · rename_i h1
      cases hs
      subst h1
      have hds : s.data.size = s.size := rfl
      refine ⟨bytesOf s, ?_, by simp [bytesOf], ?_, fun w => rfl, .inl hu, fun w' _ => ?_⟩
      · refine VRels.const ?_
        rw [List.all_eq_true]; intro v hv; obtain ⟨c, _, rfl⟩ := List.mem_map.1 hv; rfl
      · rw [List.all_eq_true]; intro v hv; obtain ⟨c, _, rfl⟩ := List.mem_map.1 hv; rfl
      · have : (s.extract 0 s.size) = s := by
          simp
        simp only [Builtin.firstCells, this, Sem.run_pure]
        congr 1
        apply Array.ext'
        simp [bytesOf]
    · cases hs
  · rename_i e hu
    cases hx
    cases hs
    exact ⟨[], .nil, by simp, rfl, fun w => rfl, .inr ⟨_, hu⟩, fun w' _ => by simp [Builtin.firstCells]⟩
  · rename_i e b o n c hu
    split at hs
    · rename_i hn
      cases hs
      subst hn
      rcases hx.slice_inv with ⟨m', s', c', hb, rfl, _⟩ | ⟨_, _, a', c', rfl⟩
      · exact ⟨[], .nil, by simp, rfl, fun w => rfl, .inr ⟨_, hu⟩, fun w' _ => by simp [Builtin.firstCells, loadCells, loadCellsFrom]⟩
      · exact ⟨[], .nil, by simp, rfl, fun w => rfl, .inr ⟨_, hu⟩, fun w' _ => by simp [Builtin.firstCells, loadCells, loadCellsFrom]⟩
    · rename_i hn
      split at hs
      · rename_i cs e' rw hg
        split at hs
        · rename_i hc
          cases hs
          obtain ⟨hc, hone⟩ := hc
          rcases hx.slice_inv with ⟨m', s', c', hb, rfl, _⟩ | ⟨rfl, _⟩
          · obtain ⟨mc, fr, te, hmg, hsz, hrs, _⟩ := hr.obj b m' s' _ hb hg
            have h1 := (hrs.drop o).take (m * size)
            have h2 : ((List.take cs.length (List.drop s'.off mc.toList)).drop o).take (m * size) = (mc.toList.drop (s'.off + o)).take (m * size) := by
              rw [List.drop_take, List.take_take, List.drop_drop]
              congr 1
              omega
            rw [h2] at h1
            have hlen : ((mc.toList.drop (s'.off + o)).take (m * size)).length = m * size := by simp; omega
            refine ⟨_, h1, by simp; omega, hone, fun w => rfl, .inr ⟨_, hu⟩, fun w' hw => ?_⟩
            exact run_firstCells_some (P := P) w' size m ⟨m', s'.off + o, none⟩ m c' _ hlen (drop_take_cells (by rw [hw]; exact hmg) (s'.off + o) (m * size))
          · exact absurd rfl hn
        · cases hs
      · cases hs
  · cases hs

theorem VRels.all_one {β : Place} {l l' : List Value} (h : VRels β l l') : l'.all Value.oneCell' = l.all Value.oneCell' := by
  induction h with
  | nil => rfl
  | cons h _ ih => simp [h.oneCell, ih]

theorem appendV_sound {P : Program} {β : Place} {h h' : Heap} {w : World} {ts : Array TypeId} {ty : TypeId} {s x ms mx v : Value} (hr : Rel P β h w) (hs : VRel β s ms) (hx : VRel β x mx) (ha : appendV P ts.toList h s x = some (v, h')) :
    ∃ β' mv w', (Builtin.append_ ts ty #[ms, mx]).run P w = .ok mv w' ∧ VRel β' v mv ∧ Rel P β' h' w' ∧ Step β h w β' h' w' := by
  unfold appendV at ha
  split at ha
  · rename_i t t2 hts
    have hts' : ts = #[t, t2] := by apply Array.ext'; simpa using hts
    subst hts'
    split at ha
    · rename_i e hu
      split at ha
      · rename_i i z hi hz
        obtain ⟨i', zv, hi', hzv, hzs, rfl, hzc⟩ := zeroCellsT_some hz
        rw [hi] at hi'
        cases hi'
        split at ha
        · rename_i m news hsrc
          obtain ⟨mnews, hrn, hlen, hone, hlo, hu2, hfirst⟩ := srcV_sound hr hx hsrc
          have hmlen : mnews.length = m * i.size := by rw [← hrn.length]; exact hlen
          have hmone : mnews.all Value.oneCell' = true := by rw [hrn.all_one]; exact hone
          -- no elements: the slice itself
          have zero : m = 0 → ∀ (base : Option Addr) (n c : Nat), ms = .slice base n c → n ≤ c → (Builtin.append_ #[t, t2] ty #[ms, mx]).run P w = .ok ms w := by
            intro hm base n c hms hle
            subst hm
            have hf := hfirst w rfl
            have : mnews = [] := List.eq_nil_of_length_eq_zero (by rw [hmlen]; simp)
            subst this
            subst hms
            rcases hu2 with hu2 | ⟨e2, hu2⟩ <;> cases base <;> simp [Builtin.append_, run_underlying hu, run_underlying hu2, sizeOf, typeInfo, hi, hlo, hf, hle, storeCells]
          -- it grows
          have grow : ∀ (base : Option Addr) (n c : Nat) (olds : List Value), ms = .slice base n c → c < n + m → n + m ≤ maxLen → (n + m) * i.bytes ≤ 140737488355328 → olds.length = n * i.size →
              (∀ w' : World, w'.heap = w.heap → (Builtin.firstCells i.size n ms).run P w' = .ok olds.toArray w') →
              (Builtin.append_ #[t, t2] ty #[ms, mx]).run P w = .ok (.slice (some ⟨w.heap.size, 0, none⟩) (n + m) (grownCap w (n + m) c e))
                (w.drew.alloc (.cells (olds.toArray ++ mnews.toArray ++ Builtin.zeroCells zv.cells (grownCap w (n + m) c e - (n + m))) e)) := by
            intro base n c olds hms hlt h63 hb hol hfo
            have hnot : ¬ (n + m ≤ c) := by omega
            have h63' : ¬ (((n + m : Nat) : Int) > IntKind.i64.max) := by rw [IntKind.max_i64]; simp only [maxLen] at h63; omega
            have h48 : ¬ (Builtin.nextslicecap (n + m) c * i.bytes > 2 ^ 48) := by
              have := growslice_fits (bytes := i.bytes) hlt hb
              simp
              exact this
            have hf1 := hfo w.drew rfl
            have hf2 := hfirst w.drew rfl
            have hms' := hms
            subst hms
            have h63'' : ¬ (9223372036854775807 < ((n : Int) + (m : Int))) := by simp only [maxLen] at h63; omega
            have h48' : ¬ (281474976710656 < Builtin.nextslicecap (n + m) c * i.bytes) := by simpa using h48
            rcases hu2 with hu2 | ⟨e2, hu2⟩ <;>
              simp [Builtin.append_, run_underlying hu, run_underlying hu2, sizeOf, typeInfo, zeroValue, hi, hzv, hlo, hnot, h63'', h48', Question.forced, hf1, hf2, newRow, grownCap] <;>
              (congr 2; apply Array.ext'; simp)
          have newRel : ∀ (n c : Nat) (olds molds : List Value), VRels β olds molds → olds.length = n * i.size → n + m ≤ maxLen → c < n + m →
              let w' := w.drew.alloc (.cells (molds.toArray ++ mnews.toArray ++ Builtin.zeroCells zv.cells (grownCap w (n + m) c e - (n + m))) e)
              let sh : Sh := ⟨0, (molds.toArray ++ mnews.toArray ++ Builtin.zeroCells zv.cells (grownCap w (n + m) c e - (n + m))).size, i.size⟩
              VRel (β.add h.next w.heap.size sh) (sliceOfNew (n + m) unk h.next) (.slice (some ⟨w.heap.size, 0, none⟩) (n + m) (grownCap w (n + m) c e)) ∧
              Rel P (β.add h.next w.heap.size sh) (h.push (.cells (olds ++ news) e true)) w' ∧ Step β h w (β.add h.next w.heap.size sh) (h.push (.cells (olds ++ news) e true)) w' := by
            intro n c olds molds hro hol hmax hlt w' sh
            have hge := grownCap_ge w (n + m) c e
            have hcm := grownCap_le_maxLen w (n + m) c e hmax
            have hmol : molds.length = n * i.size := by rw [← hro.length]; exact hol
            have hT : sh.T = grownCap w (n + m) c e * i.size := by
              simp only [sh, Array.size_append, List.size_toArray, size_zeroCells, hzs, hmol, hmlen, ← Nat.add_mul]
              congr 1
              omega
            have hlen2 : (olds ++ news).length = (n + m) * i.size := by rw [List.length_append, hol, hlen, Nat.add_mul]
            refine ⟨?_, hr.alloc (w' := w') (s := sh) rfl rfl rfl rfl ?_⟩
            · have := VRel.slice (β := β.add h.next w.heap.size sh) (o := 0) (n := n + m) (c := unk) (c' := grownCap w (n + m) c e) (Place.add_same _ _ _ _) (.inl rfl) hge hcm (.inr (.inr (by rw [hT]; simp [sh])))
              simpa [sliceOfNew, sh] using this
            · refine ⟨_, (0, 0), _, heap_alloc_new w.drew _, ?_, ?_, fun _ => ⟨⟨fun i _ => by simp, Nat.le_refl _⟩, rfl, rfl, by simp [hi, sh]⟩⟩
              · rw [hlen2]
                show 0 + _ ≤ sh.T
                rw [hT, Nat.zero_add]
                exact Nat.mul_le_mul_right _ hge
              · rw [List.drop_zero, hlen2]
                have : (molds.toArray ++ mnews.toArray ++ Builtin.zeroCells zv.cells (grownCap w (n + m) c e - (n + m))).toList.take ((n + m) * i.size) = molds ++ mnews := by
                  simp only [Array.toList_append]
                  rw [List.take_left' (by simp [hmol, hmlen, Nat.add_mul])]
                rw [this]
                exact (hro.append hrn).mono (Place.add_mono _ _ hr.noNext)
          split at ha
          · -- a nil slice
            cases hs
            split at ha
            · rename_i hm
              cases ha
              exact ⟨β, _, w, zero hm _ _ _ rfl (Nat.le_refl _), .nilslice, hr, Step.refl _ _ _⟩
            · rename_i hm
              split at ha
              · rename_i hc
                cases ha
                obtain ⟨h1, h2⟩ := hc
                have hrun := grow none 0 0 [] rfl (by omega) (by omega) (by simpa using h2) (by simp) (fun w' _ => by simp [Builtin.firstCells])
                obtain ⟨k1, k2, k3⟩ := newRel 0 0 [] [] .nil (by simp) (by omega) (by omega)
                simp only [Nat.zero_add, List.nil_append] at hrun k1 k2 k3
                exact ⟨_, _, _, hrun, k1, k2, k3⟩
              · cases ha
          · rename_i b o n c
            split at ha
            · rename_i hm
              cases ha
              rcases hs.slice_inv with ⟨m', s', c', hb, rfl, hc, hn, _⟩ | ⟨rfl, _, a', c', rfl⟩
              · exact ⟨β, _, w, zero hm _ _ _ rfl hn, hs, hr, Step.refl _ _ _⟩
              · exact ⟨β, _, w, zero hm _ _ _ rfl (Nat.zero_le _), hs, hr, Step.refl _ _ _⟩
            · rename_i hm
              split at ha
              · cases ha
              · rename_i hdn
                rcases hs.slice_inv with ⟨m', s', c', hb, rfl, hc, hn, hcm, hroom⟩ | ⟨_, rfl, _⟩
                · split at ha
                  · rename_i hbd
                    obtain ⟨hb1, hb2⟩ := hbd
                    split at ha
                    · rename_i cs e' rw hg
                      split at ha
                      · rename_i hcc
                        obtain ⟨hc1, hc2, rfl⟩ := hcc
                        have ho := hr.obj b m' s' _ hb hg
                        obtain ⟨mc, fr, te, hmg, hsz, hrs, hrwO⟩ := ho
                        have h1 := (hrs.drop o).take (n * i.size)
                        have h2 : ((List.take cs.length (List.drop s'.off mc.toList)).drop o).take (n * i.size) = (mc.toList.drop (s'.off + o)).take (n * i.size) := by
                          rw [List.drop_take, List.take_take, List.drop_drop]
                          congr 1
                          omega
                        rw [h2] at h1
                        have hlo' : ((mc.toList.drop (s'.off + o)).take (n * i.size)).length = n * i.size := by simp; omega
                        have hol : ((cs.drop o).take (n * i.size)).length = n * i.size := by simp; omega
                        have hfo : ∀ w' : World, w'.heap = w.heap → (Builtin.firstCells i.size n (.slice (some ⟨m', s'.off + o, none⟩) n c')).run P w' = .ok ((mc.toList.drop (s'.off + o)).take (n * i.size)).toArray w' :=
                          fun w' hw => run_firstCells_some (P := P) w' i.size n ⟨m', s'.off + o, none⟩ n c' _ hlo' (drop_take_cells (by rw [hw]; exact hmg) _ _)
                        have growCase : c' < n + m → ∃ β' mv w', (Builtin.append_ #[t, t2] ty #[.slice (some ⟨m', s'.off + o, none⟩) n c', mx]).run P w = .ok mv w' ∧ VRel β' (sliceOfNew (n + m) unk h.next) mv ∧
                            Rel P β' (h.push (.cells ((cs.drop o).take (n * i.size) ++ news) e' true)) w' ∧ Step β h w β' (h.push (.cells ((cs.drop o).take (n * i.size) ++ news) e' true)) w' := by
                          intro hlt
                          have hrun := grow (some ⟨m', s'.off + o, none⟩) n c' _ rfl hlt hb1 hb2 hlo' hfo
                          obtain ⟨k1, k2, k3⟩ := newRel n c' _ _ h1 hol hb1 hlt
                          exact ⟨_, _, _, hrun, k1, k2, k3⟩
                        split at ha
                        · rename_i hex
                          cases ha
                          have hcc' : c = c' := by
                            rcases hc with hc | hc | hc
                            · exact absurd hc hex.1
                            · exact absurd (.inr hc) hdn
                            · exact hc
                          exact growCase (by omega)
                        · rename_i hex
                          split at ha
                          · rename_i hrw
                            subst hrw
                            cases ha
                            obtain ⟨⟨hfz, hlh⟩, hte, hT, hz⟩ := hrwO rfl
                            subst te
                            have hzz : s'.z = i.size := by
                              unfold szT at hc2
                              rw [hz] at hc2
                              simpa using hc2
                            by_cases hfit : n + m ≤ c'
                            · -- in place
                              have hroom' : s'.off + o + c' * i.size ≤ mc.size := by
                                rcases hroom with q | q | q
                                · exact absurd (.inr q) hdn
                                · omega
                                · rw [hzz] at q; rw [hT]; exact q
                              have hle : (s'.off + o + n * i.size) + 0 + mnews.length ≤ mc.size := by
                                have : (n + m) * i.size ≤ c' * i.size := Nat.mul_le_mul_right _ hfit
                                rw [Nat.add_mul] at this
                                rw [hmlen]
                                omega
                              obtain ⟨w', mc', e1, e2, e3, e4, e5, e6, e7, e8, e9⟩ := run_storeCells_m (P := P) (m := m') (p := s'.off + o + n * i.size) (fr := fr) mnews 0 hmg hle hmone hfz
                              have hrun : (Builtin.append_ #[t, t2] ty #[.slice (some ⟨m', s'.off + o, none⟩) n c', mx]).run P w = .ok (.slice (some ⟨m', s'.off + o, none⟩) (n + m) c') w' := by
                                have hf := hfirst w rfl
                                rcases hu2 with hu2 | ⟨e2, hu2⟩ <;>
                                  simp [Builtin.append_, run_underlying hu, run_underlying hu2, sizeOf, typeInfo, hi, hlo, hf, hfit, Addr.add_lit, e1]
                              have hmono := Place.add_mono m' ⟨s'.off + o, s'.T, s'.z⟩ hr.noNext
                              obtain ⟨k2, k3⟩ := hr.moved (s' := ⟨s'.off + o, s'.T, s'.z⟩) (o' := .cells ((cs.drop o).take (n * i.size) ++ news) e' true) hb hg rfl e6 e5 e7 e8 e9 (by
                                refine ⟨mc', fr, _, e2, ?_, ?_, fun _ => ⟨⟨fun k hk => hfz k (by omega), hlh⟩, rfl, by rw [e4]; exact hT, hz⟩⟩
                                · rw [List.length_append, hol, hlen, e4]
                                  simp only
                                  rw [hmlen] at hle
                                  omega
                                · rw [List.length_append, hol, hlen]
                                  simp only
                                  have hx1 : (mc'.toList.drop (s'.off + o)).take (n * i.size + m * i.size) = (mc.toList.drop (s'.off + o)).take (n * i.size) ++ mnews := by
                                    rw [e3, Nat.add_zero, setMany_eq _ _ _ (by simpa using hle)]
                                    rw [List.drop_append_of_le_length (by simp; omega), List.drop_take]
                                    have q1 : s'.off + o + n * i.size - (s'.off + o) = n * i.size := by omega
                                    rw [q1, ← List.append_assoc, List.take_left' (by rw [List.length_append, hlo', hmlen])]
                                  rw [hx1]
                                  exact (h1.append hrn).mono hmono)
                              refine ⟨_, _, w', hrun, ?_, k2, k3⟩
                              have := VRel.slice (β := β.add h.next m' ⟨s'.off + o, s'.T, s'.z⟩) (o := 0) (n := n + m) (c := unk) (c' := c') (Place.add_same _ _ _ _) (.inl rfl) hfit hcm (.inr (.inr (by simp only; rw [hzz, ← hT]; omega)))
                              simpa [sliceOfNew] using this
                            · obtain ⟨β', mv, w', hrun, hv', hr', st'⟩ := growCase (by omega)
                              have hlive : ((h.push (.cells ((cs.drop o).take (n * i.size) ++ news) e' true)).kill b) = (h.kill b).push (.cells ((cs.drop o).take (n * i.size) ++ news) e' true) := by
                                have hbn := h.wf b _ hg
                                simp only [Heap.push, Heap.kill, Heap.mk.injEq, true_and]
                                funext k
                                by_cases hk : k = b
                                · subst hk; simp; omega
                                · simp [hk]
                              obtain ⟨k2, k3⟩ := hr'.kill b m' s' (st'.place b _ hb)
                              rw [hlive] at k2 k3
                              exact ⟨β', mv, w', hrun, hv', k2, st'.trans hr k3⟩
                          · cases ha
                      · cases ha
                    · cases ha
                  · cases ha
                · exact absurd (.inl rfl) hdn
          · cases ha
        · cases ha
      · cases ha
    · cases ha
  · cases ha
end Go.Sim
