/- Operations, reckoned. -/
import Derived.Test.YtonejeaomblpiaaGreatI1
set_option linter.unusedSimpArgs false
set_option linter.unusedVariables false
set_option linter.defProp false
namespace Go.Sim
open Go.RowKit

abbrev KX := Value → PH → Bool
def up (K : KX) (v : Value) (h : Heap) : Prop := ∃ p : PH, p.heap = h ∧ K v p = true

def pushX (p : PH) (o : AObj) (K : PH → Bool) : Bool := decide (p.next < PH.room) && K (p.push o)
theorem pushX_sound {p : PH} {o : AObj} {K : PH → Bool} (h : pushX p o K = true) : (p.push o).heap = p.heap.push o ∧ K (p.push o) = true := by
  simp only [pushX, Bool.and_eq_true, decide_eq_true_eq] at h
  exact ⟨PH.push_heap o h.1, h.2⟩
def setX (p : PH) (b : Nat) (o : AObj) : Option PH := if p.next ≤ PH.room then some (p.set b o) else none
theorem setX_sound {p p' : PH} {b : Nat} {o o' : AObj} (h : setX p b o = some p') (hg : p.get b = some o') : p'.heap = p.heap.set b o := by
  unfold setX at h
  split at h
  · cases h; exact PH.set_heap hg (by assumption)
  · cases h

def storeX (P : Program) (t : TypeId) (p : PH) (a x : Value) : Option PH :=
  match a with
  | .pointer (some ⟨b, i, none⟩) =>
    match p.get b with
    | some (.cells cs e true) =>
      if szT P t = some x.cells.size ∧ i + x.cells.size ≤ cs.length ∧ x.cells.toList.all Value.oneCell' = true then
        setX p b (.cells (setMany cs i x.cells.toList) e true)
      else none
    | _ => none
  | _ => none
theorem storeX_sound {P : Program} {t : TypeId} {p p' : PH} {a x : Value} (h : storeX P t p a x = some p') : storeV P t p.heap a x = some p'.heap := by
  unfold storeX at h
  unfold storeV
  split at h
  · rename_i b i
    split at h
    · rename_i cs e hg
      split at h
      · rename_i hc
        have hg' : p.heap.get b = some (.cells cs e true) := hg
        simp only [hg', if_pos hc, setX_sound h hg]
      · cases h
    · cases h
  · cases h

/-- What append does to the memory. -/
def appendP (P : Program) (ts : List TypeId) (h : Heap) (s x : Value) : Option (Value × Option (Option Nat × AObj)) :=
  match ts with
  | [t, t2] =>
    match P.underlying t with
    | some (.slice e) =>
      match P.info? e, zeroCellsT P e with
      | some i, some _ =>
        match srcV P i.size t2 h x with
        | some (m, news) =>
          match s with
          | .slice none 0 0 =>
            if m = 0 then some (s, none) else
            if m ≤ maxLen ∧ m * i.bytes ≤ 140737488355328 then some (sliceOfNew m unk h.next, some (none, .cells news e true)) else none
          | .slice (some ⟨b, o, none⟩) n c =>
            if m = 0 then some (s, none) else
            if c = dud ∨ c = noapp then none else
            if n + m ≤ maxLen ∧ (n + m) * i.bytes ≤ 140737488355328 then
              match h.get b with
              | some (.cells cs e' rw) =>
                if o + n * i.size ≤ cs.length ∧ szT P e' = some i.size ∧ e' = e then
                  if c ≠ unk ∧ c < n + m then some (sliceOfNew (n + m) unk h.next, some (none, .cells ((cs.drop o).take (n * i.size) ++ news) e true))
                  else if rw then some (sliceOfNew (n + m) unk h.next, some (some b, .cells ((cs.drop o).take (n * i.size) ++ news) e true)) else none
                else none
              | _ => none
            else none
          | _ => none
        | none => none
      | _, _ => none
    | _ => none
  | _ => none
def applyH (h : Heap) : Option (Option Nat × AObj) → Heap
  | none => h
  | some (none, q) => h.push q
  | some (some b, q) => (h.kill b).push q
theorem appendP_sound {P : Program} {ts : List TypeId} {h : Heap} {s x v : Value} {act : Option (Option Nat × AObj)} (ha : appendP P ts h s x = some (v, act)) :
    appendV P ts h s x = some (v, applyH h act) ∧ ∀ b q, act = some (some b, q) → ∃ o, h.get b = some o := by
  unfold appendP at ha
  unfold appendV
  split at ha
  · split at ha
    · split at ha
      · split at ha
        · rename_i m news hs
          simp only [*]
          split at ha
          · split at ha
            · cases ha; simp [*, applyH]
            · split at ha
              · cases ha; simp [*, applyH]
              · cases ha
          · split at ha
            · cases ha; simp [*, applyH]
            · split at ha
              · cases ha
              · split at ha
                · split at ha
                  · split at ha
                    · rename_i hc4
                      obtain ⟨q1, q2, q3⟩ := hc4
                      subst q3
                      split at ha
                      · rename_i hc5
                        cases ha
                        obtain ⟨r1, r2⟩ := hc5
                        simp [*, applyH]
                      · rename_i hc5
                        split at ha
                        · cases ha
                          simp_all [applyH]
                          intro a1 a2
                          exact absurd a2 (by have := hc5 a1; omega)
                        · cases ha
                    · cases ha
                  · cases ha
                · cases ha
          · cases ha
        · cases ha
      · cases ha
    · cases ha
  · cases ha
def applyX (p : PH) : Option (Option Nat × AObj) → (PH → Bool) → Bool
  | none, K => K p
  | some (none, q), K => pushX p q K
  | some (some b, q), K => decide (p.next ≤ PH.room) && pushX (p.kill b) q K
theorem applyX_sound {p : PH} {act : Option (Option Nat × AObj)} {K : PH → Bool} (h : applyX p act K = true) (hb : ∀ b q, act = some (some b, q) → ∃ o, p.heap.get b = some o) : ∃ p' : PH, p'.heap = applyH p.heap act ∧ K p' = true := by
  match act, h, hb with
  | none, h, _ => exact ⟨p, rfl, h⟩
  | some (none, q), h, _ => exact ⟨_, (pushX_sound h).1, (pushX_sound h).2⟩
  | some (some b, q), h, hb =>
    simp only [applyX, Bool.and_eq_true, decide_eq_true_eq] at h
    obtain ⟨h1, h2⟩ := pushX_sound h.2
    obtain ⟨o, ho⟩ := hb b q rfl
    have hlt := p.heap.wf _ _ ho
    exact ⟨_, by rw [h1, PH.kill_heap hlt h.1]; rfl, h2⟩

def copyX (P : Program) (ts : List TypeId) (p : PH) (d x : Value) : Option (Value × PH) :=
  match ts with
  | [t, t2] =>
    match P.underlying t with
    | some (.slice e) =>
      match szT P e with
      | some z =>
        match srcV P z t2 p.heap x with
        | some (m, news) =>
          match d with
          | .slice none 0 0 => if m = 0 then some (goInt 0, p) else none
          | .slice (some ⟨b, o, none⟩) n _ =>
            if m = 0 then some (goInt 0, p) else
            if m ≤ n then
              match p.get b with
              | some (.cells cs e' true) => if o + news.length ≤ cs.length then (setX p b (.cells (setMany cs o news) e' true)).map fun p' => (goInt m, p') else none
              | _ => none
            else none
          | _ => none
        | none => none
      | none => none
    | _ => none
  | _ => none
theorem copyX_sound {P : Program} {ts : List TypeId} {p p' : PH} {d x v : Value} (h : copyX P ts p d x = some (v, p')) : copyV P ts p.heap d x = some (v, p'.heap) := by
  unfold copyX at h
  unfold copyV
  split at h
  · split at h
    · split at h
      · split at h
        · simp only [*]
          split at h
          · split at h
            · cases h; simp [*]
            · cases h
          · split at h
            · cases h; simp [*]
            · split at h
              · split at h
                · rename_i cs e' hg
                  split at h
                  · rename_i hle
                    rw [Option.map_eq_some_iff] at h
                    obtain ⟨p2, h1, h2⟩ := h
                    cases h2
                    have hg' : p.heap.get _ = some (.cells cs e' true) := hg
                    simp only [*, if_true, if_false, setX_sound h1 hg]
                  · cases h
                · cases h
              · cases h
          · cases h
        · cases h
      · cases h
    · cases h
  · cases h

def mapPutX (P : Program) (t : TypeId) (p : PH) (m k v : Value) : Option PH :=
  match P.underlying t, m with
  | some (.map kt _), .map (some r) =>
    match p.get r with
    | some (.map es ck) =>
      if okKeyV P kt k = true then
        match findV P kt k es 0 with
        | some f => if staysV es k f = true then setX p r (.map (putV es ck k v f).1 (putV es ck k v f).2) else none
        | none => none
      else none
    | _ => none
  | _, _ => none
theorem mapPutX_sound {P : Program} {t : TypeId} {p p' : PH} {m k v : Value} (h : mapPutX P t p m k v = some p') : mapPutV P t p.heap m k v = some p'.heap := by
  unfold mapPutX at h
  unfold mapPutV
  split at h
  · split at h
    · rename_i es ck hg
      have hg' : p.heap.get _ = some (.map es ck) := hg
      split at h
      · split at h
        · split at h
          · simp only [*, if_true, setX_sound h hg]
          · cases h
        · cases h
      · cases h
    · cases h
  · cases h
def mapDelX (P : Program) (t : TypeId) (p : PH) (m k : Value) : Option PH :=
  match P.underlying t, m with
  | some (.map kt _), .map none => if okKeyV P kt k = true then some p else none
  | some (.map kt _), .map (some r) =>
    match p.get r with
    | some (.map es ck) =>
      if okKeyV P kt k = true then
        match findV P kt k es 0 with
        | some (some (i, _)) => setX p r (.map (es.eraseIdx i) ck)
        | some none => setX p r (.map es ck)
        | none => none
      else none
    | _ => none
  | _, _ => none
theorem mapDelX_sound {P : Program} {t : TypeId} {p p' : PH} {m k : Value} (h : mapDelX P t p m k = some p') : mapDelV P t p.heap m k = some p'.heap := by
  unfold mapDelX at h
  unfold mapDelV
  split at h
  · split at h
    · cases h; simp [*]
    · cases h
  · split at h
    · rename_i es ck hg
      have hg' : p.heap.get _ = some (.map es ck) := hg
      split at h
      · split at h
        · simp only [*, if_true, setX_sound h hg]
        · simp only [*, if_true, setX_sound h hg]
        · cases h
      · cases h
    · cases h
  · cases h
end Go.Sim
