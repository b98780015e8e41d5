/- Ranging over maps and strings. -/
import Derived.Test.YtonejeaomblpiaaGreatM2
set_option linter.unusedSimpArgs false
set_option linter.unusedVariables false
set_option linter.defProp false
namespace Go.Sim
open Go.RowKit

/-- What an operation of the machine comes to. -/
def Does (P : Program) (β : Place) (h : Heap) (w : World) (r : Sem Value) (K : Value → Heap → Prop) : Prop :=
  ∃ mv w' v h' β', r.run P w = .ok mv w' ∧ VRel β' v mv ∧ Rel P β' h' w' ∧ Step β h w β' h' w' ∧ K v h'

def rangeWp (P : Program) (t : TypeId) (x : Value) (h : Heap) (K : Value → Heap → Prop) : Prop :=
  match P.underlying t, x with
  | some .string, .string s => K (ptrOfNew h.next) (h.push (.striter s 0))
  | some (.map _ _), .map none => K (ptrOfNew h.next) (h.push (.iter none 0 [] 0))
  | some (.map _ _), .map (some r) => match h.get r with
    | some (.map _ ck) => K (ptrOfNew h.next) (h.push (.iter (some r) ck [] ck))
    | _ => False
  | _, _ => False
theorem range_sound {P : Program} {β : Place} {h : Heap} {w : World} {t : TypeId} {x mx : Value} {K : Value → Heap → Prop} (hr : Rel P β h w) (hx : VRel β x mx) (hk : rangeWp P t x h K) : Does P β h w (Instr.range t mx) K := by
  have make : ∀ (o : AObj) (mo : Obj), (Instr.range t mx).run P w = .ok (.pointer (some ⟨w.heap.size, 0, none⟩)) { w with heap := w.heap.push mo } →
      ORel P (β.add h.next w.heap.size ⟨0, 0, 0⟩) { w with heap := w.heap.push mo } w.heap.size ⟨0, 0, 0⟩ o → K (ptrOfNew h.next) (h.push o) → Does P β h w (Instr.range t mx) K := by
    intro o mo hrun ho hK
    obtain ⟨hr', st⟩ := hr.alloc (w' := { w with heap := w.heap.push mo }) (s := ⟨0, 0, 0⟩) rfl rfl rfl rfl ho
    exact ⟨_, _, _, _, _, hrun, VRel.ptr (o := 0) (Place.add_same _ _ _ _), hr', st, hK⟩
  unfold rangeWp at hk
  split at hk
  · rename_i s hu
    cases hx
    exact make _ (.stringIter s 0) (by simp [Instr.range, run_underlying hu]) (show ORel P _ _ _ _ (.striter s 0) from ⟨rfl, by simp⟩) hk
  · rename_i k e hu
    cases hx
    exact make _ (.mapIter none 0 #[] 0) (by simp [Instr.range, run_underlying hu]) (show ORel P _ _ _ _ (.iter none 0 [] 0) from ⟨rfl, none, by simp, trivial⟩) hk
  · rename_i k e r hu
    split at hk
    · rename_i es ck hg
      cases hx with
      | @map _ m s hb =>
        obtain ⟨mes, hh, _⟩ := hr.obj _ _ _ _ hb hg
        refine make _ (.mapIter (some m) ck #[] ck) ?_ (show ORel P _ _ _ _ (.iter (some r) ck [] ck) from ⟨rfl, some m, by simp, s, Place.add_mono _ _ hr.noNext _ _ hb⟩) hk
        unfold Instr.range
        simp only [Sem.run_bind, run_underlying hu, Result.andThen_ok, getMap hh]
        rfl
    · exact hk.elim
  · exact hk.elim

def nextWp (P : Program) (it : Value) (isString : Bool) (h : Heap) (K : Value → Heap → Prop) : Prop :=
  match it, isString with
  | .pointer (some ⟨r, 0, none⟩), true => match h.get r with
    | some (.striter s pos) =>
      if pos < s.size then K (.tuple #[.bool true, goInt pos, .int .i32 (Utf8.decode s pos).1]) (h.set r (.striter s (pos + (Utf8.decode s pos).2)))
      else K (.tuple #[.bool false]) h
    | _ => False
  | .pointer (some ⟨r, 0, none⟩), false => match h.get r with
    | some (.iter none _ _ _) => K (.tuple #[.bool false]) h
    | some (.iter (some b) since seen last) => match h.get b with
      | some (.map es ck) =>
        (!seen.isEmpty && !es.isEmpty && es.all fun e => decide (e.born ≥ last)) = false ∧
        (((es.filter fun e => !seen.contains e.born).filter fun e => decide (e.born < since)) = [] → K (.tuple #[.bool false]) h) ∧
        ∀ e ∈ es, seen.contains e.born = false → K (.tuple #[.bool true, e.key, e.val]) (h.set r (.iter (some b) since (seen ++ [e.born]) ck))
      | _ => False
    | _ => False
  | _, _ => False

theorem ERels.filter {β : Place} (p : Nat → Bool) : ∀ {es mes : List MapEntry}, ERels β es mes → ERels β (es.filter fun e => p e.born) (mes.filter fun e => p e.born)
  | _, _, .nil => .nil
  | _, _, .cons (n := n) hk hv t => by
    by_cases hp : p n = true
    · simp only [List.filter_cons, hp, if_true]; exact .cons hk hv (ERels.filter p t)
    · simp only [List.filter_cons, hp]; exact ERels.filter p t
theorem ERels.back {β : Place} : ∀ {es mes : List MapEntry} (i : Nat) {e' : MapEntry}, ERels β es mes → mes[i]? = some e' → ∃ e, es[i]? = some e ∧ e'.key = e.key ∧ VRel β e.key e.key ∧ e'.born = e.born ∧ VRel β e.val e'.val
  | _, _, i, e, .nil, h => by simp at h
  | _, _, 0, e, .cons h1 h2 t, h => by simp at h; subst h; exact ⟨_, rfl, rfl, h1, rfl, h2⟩
  | _, _, i + 1, e, .cons h1 h2 t, h => by simpa using ERels.back i t (by simpa using h)
theorem ERels.all {β : Place} (p : Nat → Bool) : ∀ {es mes : List MapEntry}, ERels β es mes → (mes.all fun e => p e.born) = (es.all fun e => p e.born)
  | _, _, .nil => rfl
  | _, _, .cons (n := n) hk hv t => by simp [ERels.all p t]

theorem next_sound {P : Program} {β : Place} {h : Heap} {w : World} {it mit : Value} {isString : Bool} {ty : TypeId} {K : Value → Heap → Prop} (hr : Rel P β h w) (hx : VRel β it mit) (hk : nextWp P it isString h K) : Does P β h w (Instr.next mit isString ty) K := by
  have stay : (Instr.next mit isString ty).run P w = .ok (.tuple #[.bool false]) w → K (.tuple #[.bool false]) h → Does P β h w (Instr.next mit isString ty) K := by
    intro hrun hK
    exact ⟨_, w, .tuple #[.bool false], h, β, hrun, VRel.tuple_iff.2 ⟨_, rfl, .cons (.bool false) .nil⟩, hr, Step.refl _ _ _, hK⟩
  unfold nextWp at hk
  split at hk
  · rename_i r
    obtain ⟨m, s, hb, rfl⟩ := hx.ptr_inv
    split at hk
    · rename_i t pos hg
      obtain ⟨h0, hh⟩ := hr.obj _ _ _ _ hb hg
      rw [h0] at stay ⊢
      have hget : (getObj m).run P w = .ok (.stringIter t pos) w := by simp [getObj, Sem.run, hh]
      by_cases hp : pos < t.size
      · rw [if_pos hp] at hk
        have hset : (setObj m (.stringIter t (pos + (Utf8.decode t pos).2))).run P w = .ok () { w with heap := w.heap.setIfInBounds m (.stringIter t (pos + (Utf8.decode t pos).2)) } := by simp [setObj, Sem.run, hh]
        obtain ⟨k1, k2⟩ := heapset_at (o' := .stringIter t (pos + (Utf8.decode t pos).2)) hh
        obtain ⟨hr', st⟩ := hr.update (w' := { w with heap := w.heap.setIfInBounds m (.stringIter t (pos + (Utf8.decode t pos).2)) }) (o' := .striter t (pos + (Utf8.decode t pos).2)) hb hg rfl rfl (by simp) k2 rfl rfl rfl ⟨h0, k1⟩
        refine ⟨.tuple #[.bool true, goInt pos, .int .i32 (Utf8.decode t pos).1], _, _, _, _, ?_, VRel.tuple_iff.2 ⟨_, rfl, .cons (.bool true) (.cons (.int _ _) (.cons (.int _ _) .nil))⟩, hr', st, hk⟩
        unfold Instr.next
        simp [hget, hp, hset]
      · rw [if_neg hp] at hk
        refine stay ?_ hk
        unfold Instr.next
        simp [hget, hp]
    · exact hk.elim
  · rename_i r
    obtain ⟨m, s, hb, rfl⟩ := hx.ptr_inv
    split at hk
    · rename_i since seen last hg
      obtain ⟨h0, mb, hh, hI⟩ := hr.obj _ _ _ _ hb hg
      rw [h0] at stay ⊢
      cases mb with
      | some _ => exact hI.elim
      | none =>
        have hget : (getObj m).run P w = .ok (.mapIter none since seen.toArray last) w := by simp [getObj, Sem.run, hh]
        refine stay ?_ hk
        unfold Instr.next
        simp [hget]
    · rename_i b since seen last hg
      obtain ⟨h0, mb, hh, hI⟩ := hr.obj _ _ _ _ hb hg
      rw [h0] at stay ⊢
      cases mb with
      | none => exact hI.elim
      | some mb =>
        obtain ⟨sb, hbb⟩ := hI
        split at hk
        · rename_i es ck hgb
          obtain ⟨mes, hhb, hE⟩ := hr.obj _ _ _ _ hbb hgb
          obtain ⟨hcond, hnone, hall⟩ := hk
          have hget : (getObj m).run P w = .ok (.mapIter (some mb) since seen.toArray last) w := by simp [getObj, Sem.run, hh]
          have hlen := hE.length
          have hc : (!seen.toArray.isEmpty && !mes.isEmpty && mes.all fun e => decide (e.born ≥ last)) = false := by
            rw [← hcond]
            have e1 : mes.isEmpty = es.isEmpty := by
              rw [Bool.eq_iff_iff]
              simp only [Array.isEmpty_iff, List.isEmpty_iff]
              constructor
              · rintro rfl; exact List.length_eq_zero_iff.1 (by simpa using hlen)
              · rintro rfl; exact Array.toList_eq_nil_iff.1 (List.length_eq_zero_iff.1 (by simpa using hlen.symm))
            have e2 : (mes.all fun e => decide (e.born ≥ last)) = es.all fun e => decide (e.born ≥ last) := by
              rw [← ERels.all (fun n => decide (n ≥ last)) hE, Array.all_toList]
            rw [e1, e2]
            simp
          let left := mes.filter fun e => !seen.toArray.contains e.born
          let old := left.filter fun e => decide (e.born < since)
          let new := left.filter fun e => decide (e.born ≥ since)
          let cand := (if old.isEmpty then #[none] else #[]) ++ (old ++ new).map some
          have hcand : 0 < cand.size := by
            by_cases ho : old.isEmpty = true
            · simp only [cand, ho, if_true]; simp only [Array.size_append, Array.size_map]; exact Nat.lt_of_lt_of_le (by decide : 0 < 1) (Nat.le_add_right _ _)
            · simp only [cand]
              have : old.size ≠ 0 := fun h => ho (by simpa [Array.isEmpty] using h)
              simp; omega
          have hch : ∃ i w1, (choose (.mapNext cand.size)).run P w = .ok i w1 ∧ i < cand.size ∧ w1.heap = w.heap ∧ w1.os = w.os ∧ w1.tape = w.tape ∧ w1.output = w.output := by
            rw [run_choose_drew]
            by_cases hf : Question.forced (.mapNext cand.size) = true
            · rw [if_pos hf]; exact ⟨0, w, rfl, hcand, rfl, rfl, rfl, rfl⟩
            · rw [if_neg hf]; exact ⟨_, w.drew, rfl, by simp only [Question.cut]; exact Nat.mod_lt _ hcand, rfl, rfl, rfl, rfl⟩
          obtain ⟨i, w1, hrun, hi, q1, q2, q3, q4⟩ := hch
          have hr1 : Rel P β h w1 := hr.same q1
          have hst1 : Step β h w β h w1 := Step.same q1 q2 q3 q4
          have pre : ∀ (y : Sem Value) (u : Value) (w2 : World), y.run P w1 = .ok u w2 → (match cand[i]? with
              | some (some e) => do
                setObj m (.mapIter (some mb) since (seen.toArray.push e.born) ck)
                pure (.tuple #[.bool true, e.key, e.val])
              | some none => pure (.tuple #[.bool false])
              | none => stuck "Next: no such candidate" : Sem Value).run P w1 = y.run P w1 →
              (Instr.next (.pointer (some ⟨m, 0 + 0, none⟩)) false ty).run P w = .ok u w2 := by
            intro y u w2 h1 h2
            have hcf : ¬ (!seen.toArray.isEmpty && !mes.isEmpty && mes.all fun e => decide (e.born ≥ last)) = true := by rw [hc]; simp
            rw [← h1, ← h2]
            unfold Instr.next
            simp only [Sem.run_bind, hget, Result.andThen_ok, getMap hhb]
            rw [if_neg hcf]
            simp only [Sem.run_bind, Sem.run_pure, Result.andThen_ok]
            have := hrun
            simp only [cand, old, new, left] at this
            simp only [ge_iff_le] at this ⊢
            rw [this]
            simp only [Result.andThen_ok]
            rfl
          cases hci : cand[i]? with
          | none => rw [Array.getElem?_eq_none_iff] at hci; omega
          | some ce =>
            cases ce with
            | none =>
              have ho : old.isEmpty = true := by
                cases hq : old.isEmpty with
                | true => rfl
                | false =>
                  exfalso
                  have := Array.mem_of_getElem? hci
                  simp only [cand, hq, Bool.false_eq_true, if_false, Array.mem_append, Array.mem_map] at this
                  rcases this with h1 | ⟨x, _, h2⟩
                  · simp at h1
                  · cases h2
              have hK := hnone (by
                have hE1 := ERels.filter (fun n => decide (n < since)) (ERels.filter (fun n => !seen.contains n) hE)
                have : old.toList = [] := by simpa [Array.isEmpty_iff] using ho
                have hl := hE1.length
                have e3 : (mes.toList.filter fun e => !seen.contains e.born).filter (fun e => decide (e.born < since)) = old.toList := by
                  simp [old, left]
                rw [e3, this] at hl
                exact List.length_eq_zero_iff.1 (by simpa using hl))
              refine ⟨_, w1, .tuple #[.bool false], h, β, pre (pure (.tuple #[.bool false])) _ w1 rfl (by rw [hci]), VRel.tuple_iff.2 ⟨_, rfl, .cons (.bool false) .nil⟩, hr1, hst1, hK⟩
            | some e' =>
              have hmem : e' ∈ mes.toList ∧ seen.contains e'.born = false := by
                have : e' ∈ (old ++ new) := by
                  have := Array.mem_of_getElem? hci
                  simp only [cand, Array.mem_append, Array.mem_map] at this
                  rcases this with h1 | ⟨x, h1, h2⟩
                  · exfalso
                    split at h1
                    · simp at h1
                    · simp at h1
                  · cases h2; exact Array.mem_append.2 (by simpa using h1)
                simp only [old, new, left, Array.mem_append, Array.mem_filter] at this
                rcases this with ⟨⟨h1, h2⟩, _⟩ | ⟨⟨h1, h2⟩, _⟩ <;> exact ⟨by simpa using h1, by simpa using h2⟩
              obtain ⟨j, hj⟩ := List.getElem?_of_mem hmem.1
              obtain ⟨e, he, hkey, hkk, hborn, hval⟩ := ERels.back j hE hj
              have hK := hall e (List.mem_of_getElem? he) (by rw [← hborn]; exact hmem.2)
              have hh1 : w1.heap[m]? = some (.mapIter (some mb) since seen.toArray last) := by rw [q1]; exact hh
              obtain ⟨k1, k2⟩ := heapset_at (w := w1) (o' := .mapIter (some mb) since (seen.toArray.push e'.born) ck) hh1
              obtain ⟨hr', st⟩ := hr1.update (w' := { w1 with heap := w1.heap.setIfInBounds m (.mapIter (some mb) since (seen.toArray.push e'.born) ck) }) (o' := .iter (some b) since (seen ++ [e.born]) ck) hb hg rfl rfl (by simp) k2 rfl rfl rfl ⟨h0, some mb, by rw [k1, hborn]; simp, sb, hbb⟩
              have hset : (setObj m (.mapIter (some mb) since (seen.toArray.push e'.born) ck)).run P w1 = .ok () { w1 with heap := w1.heap.setIfInBounds m (.mapIter (some mb) since (seen.toArray.push e'.born) ck) } := by simp [setObj, Sem.run, hh1]
              refine ⟨.tuple #[.bool true, e'.key, e'.val], _, .tuple #[.bool true, e.key, e.val], _, β, pre (do
                setObj m (.mapIter (some mb) since (seen.toArray.push e'.born) ck)
                pure (.tuple #[.bool true, e'.key, e'.val])) _ _ (by simp only [Sem.run_bind, hset, Result.andThen_ok, Sem.run_pure]) (by rw [hci]), VRel.tuple_iff.2 ⟨_, rfl, .cons (.bool true) (.cons (by rw [hkey]; exact hkk) (.cons hval .nil))⟩, hr', hst1.trans hr st, hK⟩
        · exact hk.elim
    · exact hk.elim
  · exact hk.elim

def entryWp (P : Program) (it : Value) (h : Heap) (K : Value → Heap → Prop) : Prop :=
  match it with
  | .pointer (some ⟨r, 0, none⟩) => match h.get r with
    | some (.iter (some b) _ seen last) => match seen.getLast?, h.get b with
      | some stamp, some (.map es ck) => if ck = last then
          match es.find? (fun e => e.born == stamp) with
          | some e => K (.tuple #[e.key, e.val]) h
          | none => False
        else False
      | _, _ => False
    | _ => False
  | _ => False
theorem ERels.find {β : Place} (n : Nat) : ∀ {es mes : List MapEntry} {e : MapEntry}, ERels β es mes → es.find? (fun e => e.born == n) = some e → ∃ e', mes.find? (fun e => e.born == n) = some e' ∧ e'.key = e.key ∧ VRel β e.key e.key ∧ VRel β e.val e'.val
  | _, _, e, .nil, h => by simp at h
  | _, _, e, .cons (k := kk) (v := v) (v' := v') (n := k) h1 h2 t, h => by
    by_cases hk : k = n
    · subst hk
      simp at h
      subst h
      exact ⟨⟨kk, v', k⟩, by simp, rfl, h1, h2⟩
    · have hk' : (k == n) = false := by simpa using hk
      simp only [List.find?_cons, hk'] at h ⊢
      exact ERels.find n t h
theorem entry_sound {P : Program} {β : Place} {h : Heap} {w : World} {it mit : Value} {K : Value → Heap → Prop} (hr : Rel P β h w) (hx : VRel β it mit) (hk : entryWp P it h K) : Does P β h w (Instr.entry mit) K := by
  unfold entryWp at hk
  split at hk
  · rename_i r
    obtain ⟨m, s, hb, rfl⟩ := hx.ptr_inv
    split at hk
    · rename_i b since seen last hg
      obtain ⟨h0, mb, hh, hI⟩ := hr.obj _ _ _ _ hb hg
      rw [h0]
      cases mb with
      | none => exact hI.elim
      | some mb =>
        obtain ⟨sb, hbb⟩ := hI
        split at hk
        · rename_i stamp es ck hl hgb
          obtain ⟨mes, hhb, hE⟩ := hr.obj _ _ _ _ hbb hgb
          split at hk
          · rename_i hck
            split at hk
            · rename_i e hf
              obtain ⟨e', hf', hkey, hkk, hval⟩ := ERels.find stamp hE hf
              refine ⟨.tuple #[e'.key, e'.val], w, .tuple #[e.key, e.val], h, β, ?_, VRel.tuple_iff.2 ⟨_, rfl, .cons (by rw [hkey]; exact hkk) (.cons hval .nil)⟩, hr, Step.refl _ _ _, hk⟩
              have hget : (getObj m).run P w = .ok (.mapIter (some mb) since seen.toArray last) w := by simp [getObj, Sem.run, hh]
              have hbk : seen.toArray.back? = some stamp := by simpa using hl
              have hff : mes.find? (fun e => e.born == stamp) = some e' := by rw [← Array.find?_toList]; exact hf'
              unfold Instr.entry
              simp only [Sem.run_bind, hget, Result.andThen_ok, hbk, getMap hhb]
              simp [hck, hff]
            · exact hk.elim
          · exact hk.elim
        · exact hk.elim
    · exact hk.elim
  · exact hk.elim
end Go.Sim
